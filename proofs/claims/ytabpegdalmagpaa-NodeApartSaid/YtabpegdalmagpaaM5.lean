/- Part 5 of the proof: Vu, Vlaw, Vsh, Vmu, Vsb, Ww, Wp, Wq, Wk, Vp, Vgl, Wl, Wv, Wo, Wx, Wr, Js1, Js2, Ds1, Vt, Wt, Vml, So, Vst, Vap, Vae, Ds2, Dm1, Dm2, Ds3, Ds4, Ds5, Ds6, Ds7, Ds8, Ds9, Ds10, Ds11, Ds12, Ds13, Ds14, Ds15, Ds16, Dn1, Ds17, Dn2, Js3, Js4, Js5, Je, Wy, Wdp, Dr1, Dr2, Js6, Js7. By this project. -/
import Derived.Test.YtabpegdalmagpaaM4
import Derived.Conc.MuLone
import Derived.Test.YtabpegdalmagpaaRows
import Derived.WalkKit
import Derived.ProofKit
import Derived.OpenShut
import Derived.Deep.DeepHandedRow
import Derived.ChangeSlices
import Derived.Deep.Slices
import Derived.JoinedOf
import Derived.Test.YtabpegdalmagpaaProg
import Derived.KernelRfl
import Derived.Sort.KeysCollected
set_option linter.unusedVariables false
set_option linter.unusedSectionVars false
set_option linter.unusedSimpArgs false
set_option maxRecDepth 100000
/- Vu: the machine's tables against a program. By this project. -/
namespace Go.Proofs.Ytabpegdalmagpaa
open Go.RowKit Go.Extern.Stop
def eqOf (P : Program) (t : TypeId) : Bool :=
 (match P.info? t with | some i => i.comparable | none => false) && (!P.eqGuardType P.depth t && (!P.stoodInHeld t && (match P.underlying t with | some (.struct fs) => fs.toList.all (fun f => !(f.name == "_")) | _ => true)))
noncomputable def zOf (z : Option Value) (size : Nat) : Option V := match z with
 | none => none
 | some zv => match ofVal zv with
  | none => none
  | some v => match v.cells with
   | none => none
   | some zc => match Nat.beq zc.length size with
    | true => some v
    | false => none
noncomputable def tiOf (P : Program) (t : TypeId) (e : Bool) : Option TI := match P.underlying t, P.info? t with
 | some D, some i => match e with
  | false => some ⟨tdOf D, i.size, i.bytes, zOf i.zero i.size, false⟩
  | true => match eqOf P t with
   | true => some ⟨tdOf D, i.size, i.bytes, zOf i.zero i.size, true⟩
   | false => none
 | _, _ => none
theorem zOf_some {z : Option Value} {n : Nat} {v : V} (h : zOf z n = some v) : ∃ zv, z = some zv ∧ ofVal zv = some v ∧ ∃ zc, v.cells = some zc ∧ zc.length = n := by
 unfold zOf at h
 split at h
 ·simp at h
 ·rename_i zv
  split at h
  ·simp at h
  ·rename_i v' hv
   split at h
   ·simp at h
   ·rename_i zc hc
    split at h
    ·rename_i hb
     simp only [Option.some.injEq] at h
     subst h
     exact ⟨zv, rfl, hv, zc, hc, Nat.eq_of_beq_eq_true hb⟩
    ·simp at h
theorem tiok_of {P : Program} {t : TypeId} {e : Bool} {ti : TI} (h : tiOf P t e = some ti) : TIok P t ti := by
 unfold tiOf at h
 split at h
 ·rename_i D i hD hi
  have key : ∀ b, some (⟨tdOf D, i.size, i.bytes, zOf i.zero i.size, b⟩ : TI) = some ti → (b = true → eqOf P t = true) → TIok P t ti := by
   intro b hb he
   simp only [Option.some.injEq] at hb
   subst hb
   refine ⟨⟨D, hD, rfl⟩, ⟨i, hi, rfl, rfl, fun z hz => ?_⟩, fun z hz => ?_, fun hb => ?_⟩
   ·obtain ⟨zv, h1, h2, _⟩ := zOf_some hz
    exact ⟨zv, h1, h2⟩
   ·obtain ⟨zv, h1, h2, zc, h3, h4⟩ := zOf_some hz
    exact ⟨zc, h3, h4⟩
   ·have := he hb
    unfold eqOf at this
    rw [hi, hD] at this
    simp only [Bool.and_eq_true, Bool.not_eq_true'] at this
    obtain ⟨h1, h2, h3, h4⟩ := this
    refine ⟨fun j hj => ?_, h2, h3, fun fs hfs f hf => ?_⟩
    ·rw [hi] at hj
     simp only [Option.some.injEq] at hj
     subst hj
     exact h1
    ·rw [hD] at hfs
     simp only [Option.some.injEq] at hfs
     subst hfs
     simp only at h4
     have := List.all_eq_true.mp h4 f (by simpa using hf)
     simpa using this
  split at h
  ·exact key false h (by simp)
  ·split at h
   ·rename_i he
    exact key true h (fun _ => he)
   ·simp at h
 ·simp at h
def Tr.All {α : Type} (Q : Nat → α → Prop) : Tr α → Nat → Nat → Prop
 | .lf, _, _ => True
 | .nd l v r, m, c => (∀ x, v = some x → Q c x) ∧ Tr.All Q l (2 * m) (m + c) ∧ Tr.All Q r (2 * m) (2 * m + c)
theorem Tr.all_get {α : Type} {Q : Nat → α → Prop} : ∀ (t : Tr α) (m c : Nat), t.All Q m c → ∀ i x, t.get i = some x → Q (m * i + c) x
 | .lf, m, c, h, i, x, hx => by rw [Tr.get_eq, tr_get_lf] at hx; simp at hx
 | .nd l v r, m, c, h, i, x, hx => by
  obtain ⟨h1, h2, h3⟩ := h
  rw [Tr.get_eq] at hx
  simp only [Tr.getS] at hx
  have e1 : ∀ a b : Nat, Nat.div a b = a / b := fun _ _ => rfl
  have e2 : ∀ a b : Nat, Nat.mod a b = a % b := fun _ _ => rfl
  have e3 : ∀ a b : Nat, Nat.sub a b = a - b := fun _ _ => rfl
  split at hx
  ·rename_i hi
   have : i = 0 := Nat.eq_of_beq_eq_true hi
   subst this
   simpa using h1 x hx
  ·rename_i hi
   have h0 : i ≠ 0 := by intro h; subst h; simp at hi
   split at hx
   ·rename_i ho
    have ho : i % 2 = 1 := Nat.eq_of_beq_eq_true ho
    rw [← Tr.get_eq] at hx
    have := Tr.all_get l _ _ h2 _ x hx
    rw [e1] at this
    have e : 2 * m * (i / 2) + (m + c) = m * i + c := by
     have : i = 2 * (i / 2) + 1 := by omega
     conv => rhs; rw [this]
     rw [Nat.mul_add, ← Nat.mul_assoc, Nat.mul_comm m 2]; omega
    rw [e] at this
    exact this
   ·rename_i ho
    have ho : i % 2 = 0 := by
     have : i % 2 ≠ 1 := by intro h; rw [e2, h] at ho; simp at ho
     omega
    rw [← Tr.get_eq] at hx
    have := Tr.all_get r _ _ h3 _ x hx
    rw [e1, e3] at this
    have e : 2 * m * (i / 2 - 1) + (2 * m + c) = m * i + c := by
     have : i = 2 * (i / 2 - 1) + 2 := by omega
     conv => rhs; rw [this]
     rw [Nat.mul_add, ← Nat.mul_assoc, Nat.mul_comm m 2]; omega
    rw [e] at this
    exact this
theorem Tr.all_get0 {α : Type} {Q : Nat → α → Prop} {t : Tr α} (h : t.All Q 1 0) {i : Nat} {x : α} (hx : t.get i = some x) : Q i x := by
 have := Tr.all_get t 1 0 h i x hx
 simpa using this
theorem all_some {α : Type} {Q : Nat → α → Prop} {c : Nat} {y : α} (h : Q c y) : ∀ x, some y = some x → Q c x := fun x hx => by
 simp only [Option.some.injEq] at hx
 exact hx ▸ h
theorem all_none {α : Type} {Q : Nat → α → Prop} {c : Nat} : ∀ x, (none : Option α) = some x → Q c x := fun x hx => by simp at hx
theorem all_lf {α : Type} {Q : Nat → α → Prop} {m c : Nat} : (Tr.lf : Tr α).All Q m c := trivial
theorem all_nd {α : Type} {Q : Nat → α → Prop} {l r : Tr α} {v : Option α} {m c : Nat} (h1 : ∀ x, v = some x → Q c x) (h2 : l.All Q (2 * m) (m + c)) (h3 : r.All Q (2 * m) (2 * m + c)) : (Tr.nd l v r).All Q m c := ⟨h1, h2, h3⟩
noncomputable def lookM (l : List (String × Nat)) (n : String) : Option Nat := List.rec none (fun e _ ih => Bool.rec ih (some e.2) (e.1 == n)) l
theorem lookM_mem {l : List (String × Nat)} {n : String} {f : Nat} (h : lookM l n = some f) : (n, f) ∈ l := by
 induction l with
 | nil => simp [lookM] at h
 | cons e r ih =>
  have : lookM (e :: r) n = Bool.rec (lookM r n) (some e.2) (e.1 == n) := rfl
  rw [this] at h
  cases he : (e.1 == n) with
  | false => rw [he] at h; exact List.mem_cons_of_mem _ (ih h)
  | true =>
   rw [he] at h
   simp only [Option.some.injEq] at h
   have : e.1 = n := by simpa using he
   subst this; subst h
   exact List.mem_cons_self
noncomputable def mTab (t : Tr (List (String × Nat))) (ty : TypeId) (n : String) : Option Nat := match t.get ty with
 | none => none
 | some l => lookM l n
def MethOk (P : Program) (t : TypeId) (e : String × Nat) : Prop := ∀ v w, (method (P.types.size + Made.depth) t v e.1).run P w = .ok (e.2, v) w
def FnOk (P : Program) (f : Nat) (fn : Func) : Prop := P.funcs[f]? = some fn ∧ (fn.name == "runtime.NumGoroutine") = false
def MethsOk (P : Program) (t : TypeId) (l : List (String × Nat)) : Prop := ∀ e ∈ l, MethOk P t e
theorem cok_of {P : Program} {T : Tr TI} {F : Tr Func} {M : Tr (List (String × Nat))} (hT : T.All (TIok P) 1 0) (hF : F.All (FnOk P) 1 0) (hM : M.All (MethsOk P) 1 0) (ho : P.follows .mixedOrders = true) : COk P ⟨T, F, mTab M⟩ where
 T := fun t ti h => Tr.all_get0 hT h
 F := fun f fn h => Tr.all_get0 hF h
 M := fun t name f h v w => by
  simp only [mTab] at h
  split at h
  ·simp at h
  ·rename_i l hl
   exact Tr.all_get0 hM hl _ (lookM_mem h) v w
 mo := ho
theorem fnok_of {P : Program} {f : Nat} {fn : Func} (h : P.funcs[f]? = some fn) (hn : (fn.name == "runtime.NumGoroutine") = false) : FnOk P f fn := ⟨h, hn⟩
theorem callT_of {P : Program} {C : Cx} (hC : COk P C) : ∀ f fn, C.F.get f = some fn → fn.body.isSome = true → callT P f = true := fun f fn h hb => by
 obtain ⟨h1, h2⟩ := hC.F f fn h
 simp [callT, h1, h2, hb]
theorem meths_nil {P : Program} {t : TypeId} : MethsOk P t [] := fun e h => by simp at h
theorem meths_cons {P : Program} {t : TypeId} {x : String × Nat} {r : List (String × Nat)} (h : MethOk P t x) (k : MethsOk P t r) : MethsOk P t (x :: r) := fun e he => by
 rcases List.mem_cons.mp he with rfl | he
 ·exact h
 ·exact k e he
def extd0 : DefF := fun _ _ _ _ => none
theorem extd0_ok {P : Program} : DefOk P extd0 := fun f args u hp r u' hp' h => by simp [extd0] at h
end Go.Proofs.Ytabpegdalmagpaa
/- Vlaw: a closed law that the machine finds true. By this project. -/
namespace Go.Proofs.Ytabpegdalmagpaa
open Go.RowKit Go.Extern.Stop
/- Vsh: a block of SHA-256, reckoned fast; what the machine is told of sha's block. By this project. -/
section
variable (b : List UInt8) (bs : List Nat) (hbs : ∀ i, bs.getD i 0 = byteN b i)
include hbs
end
end Go.Proofs.Ytabpegdalmagpaa
/- Vmu: a lock taken and given back, as the machine is told of it. By this project. -/
namespace Go.Proofs.Ytabpegdalmagpaa
open Go.RowKit Go.Extern.Stop Go.Conc.Locks
end Go.Proofs.Ytabpegdalmagpaa
/- Vsb: what the machine is told of sha's block, and that it is so. By this project. -/
set_option maxRecDepth 100000
namespace Go.Proofs.Ytabpegdalmagpaa
open Go.RowKit Go.Extern.Stop
def wV (n : Nat) : V := .i .u32 (.ofNat (Nat.mod n 4294967296))
theorem renL_joinA {E : Env} : ∀ {a b : List V} {p q : List Value}, renL E a = some p → renL E b = some q → renL E (a ++ b) = some (p ++ q)
 | [], b, p, q, h1, h2 => by simp [renL] at h1; subst h1; simpa using h2
 | v :: r, b, p, q, h1, h2 => by
  obtain ⟨y, t, h3, h4, rfl⟩ := renL_cons h1
  have := renL_joinA h4 h2
  simp [renL, h3, this]
def blocksL (w : World) : HL := w.heap.toList.zipIdx.map fun x => (some x.2, x.1)
theorem blocksL_at (w : World) (i : Nat) : (blocksL w)[i]? = (w.heap[i]?).map fun o => (some i, o) := by
 unfold blocksL
 rw [List.getElem?_map, List.getElem?_zipIdx]
 simp
 cases w.heap[i]? <;> simp
theorem blocksL_st (w : World) : St { w with heap := #[] } w (blocksL w) := by
 refine ⟨⟨rfl, rfl, rfl, Nat.zero_le _, fun k hk => by simp at hk⟩, fun i b o hi => ?_, fun i j b o o' hi hj => ?_⟩
 ·rw [blocksL_at] at hi
  cases hw : w.heap[i]? with
  | none => rw [hw] at hi; simp at hi
  | some x =>
   rw [hw] at hi
   simp at hi
   obtain ⟨rfl, rfl⟩ := hi
   exact ⟨hw, Nat.zero_le _⟩
 ·rw [blocksL_at] at hi hj
  cases hw : w.heap[i]? with
  | none => rw [hw] at hi; simp at hi
  | some x =>
   cases hw2 : w.heap[j]? with
   | none => rw [hw2] at hj; simp at hj
   | some y =>
    rw [hw] at hi
    rw [hw2] at hj
    simp at hi hj
    omega
/- Ww: words and bytes on the machine: what the operations make of them. By this project. -/
section
variable {K : Kx} {hp0 : Bs} {l : VL} {L : HV} {a b : Operand} {t t' : TypeId} {x y : Nat}
end
attribute [local irreducible] wV
theorem wrapU8 (n : Nat) : IntKind.u8.wrap (n : Int) = ((n % 256 : Nat) : Int) := by
 simp [IntKind.wrap, IntKind.bits, IntKind.signed]
theorem byV_ofNat (n : Nat) : byV (UInt8.ofNat n) = .i .u8 ((n % 256 : Nat) : Int) := by
 simp [byV, UInt8.toNat_ofNat]
theorem wrapU64 {n : Nat} (h : n < 18446744073709551616) : IntKind.u64.wrap (n : Int) = (n : Int) := by
 simp [IntKind.wrap, IntKind.bits, IntKind.signed]
 omega
section
variable {K : Kx} {hp0 : Bs} {l : VL} {L : HV} {a b : Operand} {t t' : TypeId}
theorem m_convB {s : TypeId} {q : IntKind} {p : Int} {n : Nat} [hs : IntV K.C s q] [ht : IntV K.C t .u8] (hx : evL l a = some (.i q p)) [hn : CastN p n] : MVO K hp0 l L (.convert s t a) (byV (UInt8.ofNat n)) := by
 have := m_conv (K := K) (hp0 := hp0) (L := L) (s := s) (t := t) hx
 rw [hn.h, wrapU8, ← byV_ofNat] at this
 exact this
theorem m_convU {s : TypeId} {q : IntKind} {p : Int} {n : Nat} [hs : IntV K.C s q] [ht : IntV K.C t .u64] (hx : evL l a = some (.i q p)) [hn : CastN p n] (h : n < 18446744073709551616) : MVO K hp0 l L (.convert s t a) (.i .u64 (n : Int)) := by
 have := m_conv (K := K) (hp0 := hp0) (L := L) (s := s) (t := t) hx
 rw [hn.h, wrapU64 h] at this
 exact this
theorem vsh_shr {q : IntKind} {n k : Nat} (hk : k ≤ q.bits) : vshift .shr q (n : Int) (k : Int) = some (.i q ((n / 2 ^ k : Nat) : Int)) := by
 show some (V.i q (Int.fdiv _ (2 ^ min k q.bits))) = _
 rw [show min k q.bits = k by omega]
 congr 2
 rw [Int.fdiv_eq_ediv_of_nonneg _ (by exact_mod_cast Nat.zero_le _)]
 norm_cast
theorem m_shrN {q k : IntKind} {x y : Int} {n m : Nat} (hx : evL l a = some (.i q x)) (hy : evL l b = some (.i k y)) [hn : CastN x n] [hm : CastN y m] (hk : m ≤ q.bits) : MVO K hp0 l L (.binOp .shr t a b t') (.i q ((n / 2 ^ m : Nat) : Int)) := by
 refine mv_sh hx hy ?_
 rw [hn.h, hm.h]
 exact vsh_shr hk
end
end Go.Proofs.Ytabpegdalmagpaa
/- Wp: rows of bytes compared; maps looked into; least and greatest. By this project. -/
set_option maxRecDepth 100000
namespace Go.Proofs.Ytabpegdalmagpaa
open Go.RowKit Go.Extern.Stop
theorem veq_u8 {C : Cx} {hp : Hp} {d : Nat} {e : TypeId} [hI : IntV C e .u8] (a b : UInt8) : veq C hp (d + 1) e (byV a) (byV b) = some (decide (a = b)) := by
 obtain ⟨ti, h1, h2⟩ := hI.h
 have e1 : intEq (Int.ofNat a.toNat) (Int.ofNat b.toNat) = decide (a = b) := by
  show Nat.beq a.toNat b.toNat = _
  rw [Bool.eq_iff_iff]
  simp only [decide_eq_true_eq]
  exact ⟨fun h => UInt8.toNat_inj.1 (Nat.eq_of_beq_eq_true h), fun h => by subst h; exact Nat.beq_refl _⟩
 simp only [veq, h1, Option.bind_some, h2, byV, e1]
 rfl
theorem eqEs_by {C : Cx} {hp : Hp} {d : Nat} {e : TypeId} [hI : IntV C e .u8] [hR : RowV C e false] : ∀ (xs ys : List UInt8), xs.length = ys.length → eqEs (veq C hp (d + 1) e) C e 1 xs.length (xs.map byV) (ys.map byV) = some (decide (xs = ys))
 | [], [], _ => rfl
 | a :: r, b :: s, h => by
  obtain ⟨ti, h1, h2⟩ := hR.h
  have ih := eqEs_by (C := C) (hp := hp) (d := d) (e := e) r s (by simpa using h)
  have p1 : ∀ (x : V) (l : List V), partV C e (x :: l) 0 = some x := fun x l => by simp [partV, h1, h2, getL_eq]
  simp only [List.length_cons, List.map_cons, eqEs, p1, Option.bind_some, veq_u8, dropF_eq, List.drop_succ_cons, List.drop_zero, ih]
  by_cases c : a = b <;> simp [c]
theorem veq_by {C : Cx} {hp : Hp} {d n : Nat} {t e : TypeId} [hA : ArrV C t n e] [hI : IntV C e .u8] [hR : RowV C e false] [hS : SizeV C e 1] {xs ys : List UInt8} (hx : xs.length = n) (hy : ys.length = n) : veq C hp (d + 2) t (.agg (xs.map byV)) (.agg (ys.map byV)) = some (decide (xs = ys)) := by
 obtain ⟨ti, h1, h2⟩ := hA.h
 obtain ⟨te, h3, h4⟩ := hS.h
 have := eqEs_by (C := C) (hp := hp) (d := d) (e := e) xs ys (by omega)
 rw [hx] at this
 rw [veq.eq_2]
 simp only [h1, Option.bind_some, h2, h3, h4]
 exact this
class KeyV (C : Cx) (hp : Hp) (kt : TypeId) {α : Type} (f : α → V) (ok : α → Prop) : Prop where
 fit : ∀ a, ok a → keyFit C kt (f a) = true
 eq : ∀ a b, ok a → ok b → ∃ t : Bool, mapEq C hp kt (f a) (f b) = some t ∧ (t = true ↔ a = b)
section
variable {C : Cx} {hp : Hp} {kt : TypeId} {α : Type} {f : α → V} {ok : α → Prop} [hK : KeyV C hp kt f ok]
variable {t et : TypeId} [hM : MapV C t kt et] {b clk : Nat} {ks : List α} {vs : List V} {k : α}
include hM
end
section
variable {K : Kx} {hp0 : Bs} {l : VL} {L : HV} {a b : Operand} {t t' : TypeId}
theorem vB_and (x y : UInt8) : vint .and .u8 (.ofNat x.toNat) (.ofNat y.toNat) = some (byV (x &&& y)) := by
 show some (V.i .u8 (IntKind.u8.wrap _)) = _
 have of8 : ∀ z : UInt8, (BitVec.ofInt IntKind.u8.bits (Int.ofNat z.toNat)).toNat = z.toNat := fun z => by
  have := z.toNat_lt
  simp [IntKind.bits]
 rw [BitVec.toNat_and, of8, of8, wrapU8]
 have h : (x &&& y).toNat = x.toNat &&& y.toNat := UInt8.toNat_and x y
 have h2 := (x &&& y).toNat_lt
 rw [h] at h2
 rw [Nat.mod_eq_of_lt h2]
 show _ = some (V.i .u8 (Int.ofNat (x &&& y).toNat))
 rw [h]
 rfl
theorem vB_or (x y : UInt8) : vint .or .u8 (.ofNat x.toNat) (.ofNat y.toNat) = some (byV (x ||| y)) := by
 show some (V.i .u8 (IntKind.u8.wrap _)) = _
 have of8 : ∀ z : UInt8, (BitVec.ofInt IntKind.u8.bits (Int.ofNat z.toNat)).toNat = z.toNat := fun z => by
  have := z.toNat_lt
  simp [IntKind.bits]
 rw [BitVec.toNat_or, of8, of8, wrapU8]
 have h : (x ||| y).toNat = x.toNat ||| y.toNat := UInt8.toNat_or x y
 have h2 := (x ||| y).toNat_lt
 rw [h] at h2
 rw [Nat.mod_eq_of_lt h2]
 show _ = some (V.i .u8 (Int.ofNat (x ||| y).toNat))
 rw [h]
 rfl
theorem m_andB {x y : UInt8} (hx : evL l a = some (byV x)) (hy : evL l b = some (byV y)) : MVO K hp0 l L (.binOp .and t a b t') (byV (x &&& y)) := mv_int hx hy (vB_and x y)
theorem m_orB {x y : UInt8} (hx : evL l a = some (byV x)) (hy : evL l b = some (byV y)) : MVO K hp0 l L (.binOp .or t a b t') (byV (x ||| y)) := mv_int hx hy (vB_or x y)
theorem m_shlB {x : UInt8} {k : IntKind} {p : Int} {n : Nat} (hx : evL l a = some (byV x)) (hy : evL l b = some (.i k p)) [hn : CastN p n] (h : n ≤ 8) : MVO K hp0 l L (.binOp .shl t a b t') (byV (UInt8.ofNat (x.toNat * 2 ^ n))) := by
 refine mv_sh hx hy ?_
 rw [hn.h]
 show some (V.i .u8 (IntKind.u8.wrap ((x.toNat : Int) * 2 ^ min n IntKind.u8.bits))) = _
 rw [show min n IntKind.u8.bits = n by simp [IntKind.bits]; omega]
 have e : ((x.toNat : Int) * 2 ^ n) = ((x.toNat * 2 ^ n : Nat) : Int) := by norm_cast
 rw [e, wrapU8, ← byV_ofNat]
end
/- Wq: calls that turn some of the own objects, the rest kept; appending single cells; slices against nil. By this project. -/
instance (priority := 50) {b i : Nat} {o : VO} {N L : HV} [k : AtV b L o i] : AtV b (N ++ L) o (N.length + i) := ⟨by rw [List.getElem?_append_right (by omega), Nat.add_sub_cancel_left]; exact k.h⟩
instance (priority := 50) {i : Nat} {x : Option Nat × VO} {N L L' : HV} [k : SetV L i x L'] : SetV (N ++ L) (N.length + i) x (N ++ L') := ⟨by rw [List.set_append_right _ _ (by omega), Nat.add_sub_cancel_left, k.h]⟩
class OutXs (L : HV) (is : List Nat) (Lt Lr : outParam HV) : Prop where h : L.Perm (Lt ++ Lr)
instance {L : HV} : OutXs L [] [] L := ⟨List.Perm.refl _⟩
class OutM (L : HV) (M : HV) (r : outParam HV) : Prop where h : L.Perm (M ++ r)
instance (priority := high) {M R : HV} : OutM (M ++ R) M R := ⟨List.Perm.refl _⟩
instance (priority := high) {M : HV} : OutM M M [] := ⟨by rw [List.append_nil]⟩
instance {x : Option Nat × VO} {L M r : HV} [k : OutM L M r] : OutM (x :: L) M (x :: r) := ⟨(k.h.cons x).trans List.perm_middle.symm⟩
instance (priority := low) {N L M r : HV} [k : OutM L M r] : OutM (N ++ L) M (N ++ r) := ⟨(k.h.append_left N).trans (List.perm_append_comm_assoc _ _ _)⟩
section
variable {K : Kx} {nt : Nat} {hp0 : Bs} {l : VL} {df : DL} {L L0 : HV} {Q : WQ}
theorem p_callM {ops rest : List Oper} {d : Nat} {c : Call} {ty : TypeId} {ps : String} {af : Array Edge} {gd : Option (Nat × Bool)} {xs vs : List V} {f : Nat} {R : V → HV → Prop} {Lr : HV} (Lt : HV) (hg : WantV ops l ⟨some d, .call c, ty, ps, af, gd⟩) (hlt : Nat.ble (d + 1) nt = true) (hnt : Nat.ble nt trMax = true) (ha : evLs l c.args.toList = some xs) (hc : callee c.callee l K.C xs = some (f, vs)) [pt : OutM L Lt Lr] (hC : ∀ hp, SV hp0 hp (Lt ++ Lr) → SV ⟨hp, hnds Lt⟩ hp Lt → Fn K f vs hp (hnds Lt) fun r N => ∃ u, r = .v u ∧ R u N)
  (k : ∀ u N, R u N → WGL K nt hp0 ops rest ((d, u) :: l) df (N ++ Lr) Q) : WGL K nt hp0 ops (⟨some d, .call c, ty, ps, af, gd⟩ :: rest) l df L Q := p_callT Lt Lr hg hlt hnt ha hc (fun hp h => h.perm pt.h) (fun hp hs ht => hC hp (hs.perm pt.h) ht) k
theorem d_callM {ops rest : List Oper} {pres : Tr Nat} {i np : Nat} {tl : List Nat} {rl : List (Nat × List Nat)} {d : Nat} {c : Call} {ty : TypeId} {ps : String} {af : Array Edge} {gd : Option (Nat × Bool)} {xs vs : List V} {f : Nat} {R : V → HV → Prop} {Lr : HV} (Lt : HV) (hg : WantV ops l ⟨some d, .call c, ty, ps, af, gd⟩) (hm : maskLe np (maskOf pres i) = true) (hlt : Nat.ble (d + 1) nt = true) (hnt : Nat.ble nt trMax = true) (ha : evLs l c.args.toList = some xs) (hc : callee c.callee l K.C xs = some (f, vs)) [pt : OutM L Lt Lr] (hok : RdOk pres i (hnds Lt) rl) (hC : ∀ hp, SV hp0 hp (Lt ++ Lr) → SV ⟨hp, hnds Lt⟩ hp Lt → Fn K f vs hp (hnds Lt) fun r N => ∃ u, r = .v u ∧ R u N)
  (k : ∀ u N, R u N → WGD K nt hp0 ops pres L0 df rest (i + 1) (hnds Lt ++ tl) rl (np ||| (1 <<< i)) ((d, u) :: l) (N ++ Lr) Q) : WGD K nt hp0 ops pres L0 df (⟨some d, .call c, ty, ps, af, gd⟩ :: rest) i tl rl np l L Q := d_callT Lt Lr hg hm hlt hnt ha hc hok (fun hp h => h.perm pt.h) (fun hp hs ht => hC hp (hs.perm pt.h) ht) k
theorem p_callY {ops rest : List Oper} {d : Nat} {c : Call} {ty : TypeId} {ps : String} {af : Array Edge} {gd : Option (Nat × Bool)} {xs vs : List V} {f : Nat} {R : V → HV → Prop} {Lt Lr : HV} (is : List Nat) (hg : WantV ops l ⟨some d, .call c, ty, ps, af, gd⟩) (hlt : Nat.ble (d + 1) nt = true) (hnt : Nat.ble nt trMax = true) (ha : evLs l c.args.toList = some xs) (hc : callee c.callee l K.C xs = some (f, vs)) [pt : OutXs L is Lt Lr] (hC : ∀ hp, SV hp0 hp (Lt ++ Lr) → SV ⟨hp, hnds Lt⟩ hp Lt → Fn K f vs hp (hnds Lt) fun r N => ∃ u, r = .v u ∧ R u N)
  (k : ∀ u N, R u N → WGL K nt hp0 ops rest ((d, u) :: l) df (N ++ Lr) Q) : WGL K nt hp0 ops (⟨some d, .call c, ty, ps, af, gd⟩ :: rest) l df L Q := p_callT Lt Lr hg hlt hnt ha hc (fun hp h => h.perm pt.h) (fun hp hs ht => hC hp (hs.perm pt.h) ht) k
theorem d_callY {ops rest : List Oper} {pres : Tr Nat} {i np : Nat} {tl : List Nat} {rl : List (Nat × List Nat)} {d : Nat} {c : Call} {ty : TypeId} {ps : String} {af : Array Edge} {gd : Option (Nat × Bool)} {xs vs : List V} {f : Nat} {R : V → HV → Prop} {Lt Lr : HV} (is : List Nat) (hg : WantV ops l ⟨some d, .call c, ty, ps, af, gd⟩) (hm : maskLe np (maskOf pres i) = true) (hlt : Nat.ble (d + 1) nt = true) (hnt : Nat.ble nt trMax = true) (ha : evLs l c.args.toList = some xs) (hc : callee c.callee l K.C xs = some (f, vs)) [pt : OutXs L is Lt Lr] (hok : RdOk pres i (hnds Lt) rl) (hC : ∀ hp, SV hp0 hp (Lt ++ Lr) → SV ⟨hp, hnds Lt⟩ hp Lt → Fn K f vs hp (hnds Lt) fun r N => ∃ u, r = .v u ∧ R u N)
  (k : ∀ u N, R u N → WGD K nt hp0 ops pres L0 df rest (i + 1) (hnds Lt ++ tl) rl (np ||| (1 <<< i)) ((d, u) :: l) (N ++ Lr) Q) : WGD K nt hp0 ops pres L0 df (⟨some d, .call c, ty, ps, af, gd⟩ :: rest) i tl rl np l L Q := d_callT Lt Lr hg hm hlt hnt ha hc hok (fun hp h => h.perm pt.h) (fun hp hs ht => hC hp (hs.perm pt.h) ht) k
theorem notin_of {B : Bs} {hp : Hp} {L M r : HV} {b i : Nat} {o : VO} (hs : SV B hp L) [k : OutM L M r] [h : AtV b r o i] : NotIn b (hnds M) := ⟨fun hm => by
 have hs2 := hs.perm k.h
 have h1 : (M ++ r)[M.length + i]? = some (some b, o) := by rw [List.getElem?_append_right (by omega), Nat.add_sub_cancel_left]; exact h.h
 obtain ⟨j, o2, hj⟩ := hasT_hnds M b hm
 have hj2 := (List.getElem?_eq_some_iff.1 hj).1
 have := hs2.one _ _ _ _ _ h1 (show (M ++ r)[j]? = some (some b, o2) by rw [List.getElem?_append_left hj2]; exact hj)
 omega⟩
class RdNot (tch : List Nat) (rl : List (Nat × List Nat)) : Prop where h : ∀ p ∈ rl, ∀ h ∈ p.2, h ∉ tch
instance {tch : List Nat} : RdNot tch [] := ⟨by simp⟩
instance {tch : List Nat} {i b : Nat} {rl : List (Nat × List Nat)} [k : NotIn b tch] [q : RdNot tch rl] : RdNot tch ((i, [b]) :: rl) := ⟨fun p hp h hh => by
 rcases List.mem_cons.1 hp with rfl | hp
 ·rw [List.mem_singleton.1 hh]; exact k.h
 ·exact q.h p hp h hh⟩
theorem rdOk_c {pres : Tr Nat} {i : Nat} {tch : List Nat} {rl : List (Nat × List Nat)} [k : RdNot tch rl] : RdOk pres i tch rl := fun p hp => .inr (k.h p hp)
theorem e_app0' {tS tX e eX : TypeId} {s x : Operand} {A : Option (Nat × Nat)} {n c : Nat} {op op' : Bool} {new : List V} {k : VR → HV → Prop} [hS : SliceV K.C tS e] [hz : SizeV K.C e 1] [hG : GrowV K.C e] [hX : SliceV K.C tX eX] (hs : evL l s = some (.sl none 0 0 op)) (hx : evL l x = some (.sl A n c op')) (hr : RZ hp0 L A new) (hnl : new.length = n) (hn : 0 < n) (hl : ∀ te, tiV K.C e = some te → GrowTo te (n))
  (hk : ∀ b, k (.v (.sl (some (b, 0)) n n true)) ((some b, .cells new e (some 1) false) :: L)) : EV K hp0 l L (.call { callee := .builtin .append, args := #[s, x], argTypes := #[tS, tX] }) [] k := by
 obtain ⟨ti, h3, h4⟩ := hS.h
 obtain ⟨te, h5, h6⟩ := hz.h
 obtain ⟨tx, h7, h8⟩ := hX.h
 obtain ⟨tg, h9, h10⟩ := hG.h
 rw [h5] at h9
 obtain rfl := Option.some.inj h9
 haveI : TiV K.C tS ti := ⟨h3⟩
 haveI : TiV K.C e te := ⟨h5⟩
 haveI : TiV K.C tX tx := ⟨h7⟩
 refine ev_app0 (c := 0) hs hx h4 (src_sl h8 hr (by rw [h6]; omega) (by omega)) hn (hl _ h5) h10 (fun b => ?_)
 rw [h6]
 exact hk b
theorem e_app0b {tS tX e eX : TypeId} {s x : Operand} {A : Option (Nat × Nat)} {n c : Nat} {op op' : Bool} {new : List V} {k : VR → HV → Prop} [hS : SliceV K.C tS e] [hz : SizeV K.C e 1] [hG : GrowV K.C e] [hX : SliceV K.C tX eX] (hs : evL l s = some (.sl none 0 0 op)) (hx : evL l x = some (.sl A n c op')) (hr : RZ hp0 L A new) (hnl : new.length = n) (hn : 0 < n) (h8 : ∃ te, tiV K.C e = some te ∧ te.bytes = 1) (hl : n ≤ 150000000000000)
  (hk : ∀ b, k (.v (.sl (some (b, 0)) n n true)) ((some b, .cells new e (some 1) false) :: L)) : EV K hp0 l L (.call { callee := .builtin .append, args := #[s, x], argTypes := #[tS, tX] }) [] k :=
 e_app0' hs hx hr hnl hn (fun te h => by obtain ⟨t1, h1, h2⟩ := h8; rw [h1] at h; obtain rfl := Option.some.inj h; exact .inr ⟨by omega, by rw [h2, Nat.mul_one]; omega⟩) hk
theorem e_appO' {tS tX e eX : TypeId} {s x : Operand} {A : Option (Nat × Nat)} {b m n c i : Nat} {op' : Bool} {old new : List V} {mk : Bool} {k : VR → HV → Prop} [hS : SliceV K.C tS e] [hz : SizeV K.C e 1] [hG : GrowV K.C e] [hX : SliceV K.C tX eX] (hs : evL l s = some (.sl (some (b, 0)) m m true)) (hx : evL l x = some (.sl A n c op')) [hL : AtV b L (.cells old e (some 1) mk) i] (hol : old.length = m) (hr : RZ hp0 L A new) (hnl : new.length = n) (hn : 0 < n) (hl : ∀ te, tiV K.C e = some te → GrowTo te (m + n))
  (hk : ∀ b, k (.v (.sl (some (b, 0)) (m + n) (m + n) true)) (L.set i (some b, .cells (old ++ new) e (some 1) mk))) : EV K hp0 l L (.call { callee := .builtin .append, args := #[s, x], argTypes := #[tS, tX] }) [b] k := by
 obtain ⟨ti, h3, h4⟩ := hS.h
 obtain ⟨te, h5, h6⟩ := hz.h
 obtain ⟨tx, h7, h8⟩ := hX.h
 obtain ⟨tg, h9, h10⟩ := hG.h
 rw [h5] at h9
 obtain rfl := Option.some.inj h9
 haveI : TiV K.C tS ti := ⟨h3⟩
 haveI : TiV K.C e te := ⟨h5⟩
 haveI : TiV K.C tX tx := ⟨h7⟩
 haveI : AtV b L (.cells old e (some te.size) mk) i := ⟨by rw [h6]; exact hL.h⟩
 refine ev_appO (L' := L) (old := old) (mk := mk) (i := i) hs hx h4 (by rw [h6]; omega) (src_sl h8 hr (by rw [h6]; omega) (by omega)) hn (hl _ h5) h10 (fun b => ?_)
 rw [h6]
 exact hk b
theorem e_appOb {tS tX e eX : TypeId} {s x : Operand} {A : Option (Nat × Nat)} {b m n c i : Nat} {op' : Bool} {old new : List V} {mk : Bool} {k : VR → HV → Prop} [hS : SliceV K.C tS e] [hz : SizeV K.C e 1] [hG : GrowV K.C e] [hX : SliceV K.C tX eX] (hs : evL l s = some (.sl (some (b, 0)) m m true)) (hx : evL l x = some (.sl A n c op')) [hL : AtV b L (.cells old e (some 1) mk) i] (hol : old.length = m) (hr : RZ hp0 L A new) (hnl : new.length = n) (hn : 0 < n) (h8 : ∃ te, tiV K.C e = some te ∧ te.bytes = 1) (hl : m + n ≤ 150000000000000)
  (hk : ∀ b, k (.v (.sl (some (b, 0)) (m + n) (m + n) true)) (L.set i (some b, .cells (old ++ new) e (some 1) mk))) : EV K hp0 l L (.call { callee := .builtin .append, args := #[s, x], argTypes := #[tS, tX] }) [b] k :=
 e_appO' hs hx hol hr hnl hn (fun te h => by obtain ⟨t1, h1, h2⟩ := h8; rw [h1] at h; obtain rfl := Option.some.inj h; exact .inr ⟨by omega, by rw [h2, Nat.mul_one]; omega⟩) hk
theorem e_appG' {tS tX e eX : TypeId} {s x : Operand} {A : Option (Nat × Nat)} {b o m c n c' : Nat} {op' : Bool} {old new : List V} {k : VR → HV → Prop} [hS : SliceV K.C tS e] [hz : SizeV K.C e 1] [hG : GrowV K.C e] [hX : SliceV K.C tX eX] (hs : evL l s = some (.sl (some (b, o)) m c false)) (hx : evL l x = some (.sl A n c' op')) (hold : RZ hp0 L (some (b, o)) old) (hol : old.length = m) (hr : RZ hp0 L A new) (hnl : new.length = n) (hgr : c < m + n) (hl : ∀ te, tiV K.C e = some te → GrowTo te (m + n))
  (hk : ∀ b, k (.v (.sl (some (b, 0)) (m + n) (m + n) true)) ((some b, .cells (old ++ new) e (some 1) false) :: L)) : EV K hp0 l L (.call { callee := .builtin .append, args := #[s, x], argTypes := #[tS, tX] }) [] k := by
 obtain ⟨ti, h3, h4⟩ := hS.h
 obtain ⟨te, h5, h6⟩ := hz.h
 obtain ⟨tx, h7, h8⟩ := hX.h
 obtain ⟨tg, h9, h10⟩ := hG.h
 rw [h5] at h9
 obtain rfl := Option.some.inj h9
 haveI : TiV K.C tS ti := ⟨h3⟩
 haveI : TiV K.C e te := ⟨h5⟩
 haveI : TiV K.C tX tx := ⟨h7⟩
 refine ev_appG (old := old) hs hx h4 hold (by rw [h6]; omega) (src_sl h8 hr (by rw [h6]; omega) (by omega)) hgr (hl _ h5) h10 (fun b => ?_)
 rw [h6]
 exact hk b
theorem e_appGb {tS tX e eX : TypeId} {s x : Operand} {A : Option (Nat × Nat)} {b o m c n c' : Nat} {op' : Bool} {old new : List V} {k : VR → HV → Prop} [hS : SliceV K.C tS e] [hz : SizeV K.C e 1] [hG : GrowV K.C e] [hX : SliceV K.C tX eX] (hs : evL l s = some (.sl (some (b, o)) m c false)) (hx : evL l x = some (.sl A n c' op')) (hold : RZ hp0 L (some (b, o)) old) (hol : old.length = m) (hr : RZ hp0 L A new) (hnl : new.length = n) (hgr : c < m + n) (h8 : ∃ te, tiV K.C e = some te ∧ te.bytes = 1) (hl : m + n ≤ 150000000000000)
  (hk : ∀ b, k (.v (.sl (some (b, 0)) (m + n) (m + n) true)) ((some b, .cells (old ++ new) e (some 1) false) :: L)) : EV K hp0 l L (.call { callee := .builtin .append, args := #[s, x], argTypes := #[tS, tX] }) [] k :=
 e_appG' hs hx hold hol hr hnl hgr (fun te h => by obtain ⟨t1, h1, h2⟩ := h8; rw [h1] at h; obtain rfl := Option.some.inj h; exact .inr ⟨by omega, by rw [h2, Nat.mul_one]; omega⟩) hk
theorem e_share {t e E : TypeId} {x : Operand} {b o n c i : Nat} {op : Bool} {C : List V} {oo : Option Nat} {mk : Bool} {L' : HV} {kk : VR → HV → Prop} [ht : SliceV K.C t e] [he : IntV K.C e .u8] (hx : evL l x = some (.sl (some (b, o)) n c op)) [hL : AtV b L (.cells C E oo mk) i] [hS : SetV L i (some b, .cells C E oo true) L'] (hkk : kk (.v (.sl (some (b, o)) n c op)) L') : EV K hp0 l L (.convert t t x) [b] kk := by
 obtain ⟨ti, h3, h4⟩ := ht.h
 obtain ⟨ei, h5, h6⟩ := he.h
 unfold EV
 intro fr hp hf hs
 have hb := hs.has i b _ hL.h
 obtain ⟨h1, h2⟩ := put_sv (o' := .cells C E oo true) hs hL.h
 refine ⟨_, _, L', ⟨0, fun n _ => ?_⟩, by rw [← hS.h]; exact h1, h2, tch_put hb.2.1, hkk⟩
 show oConv K.C fr hp t t x = _
 have e3 : hp.getW b = some (.cells C E oo mk) := by simp only [Hp.getW, hb.2.1.1]; exact hb.1
 simp only [oConv, hf.ev hx, Option.bind_some, vconv, h3, h4, Nat.beq_refl, h5, h6, e3, ret2]
theorem m_eqsl {t t' e : TypeId} {x y : Operand} {a : Nat × Nat} {n c : Nat} {op : Bool} [hS : SliceV K.C t e] (hx : evL l x = some (.sl (some a) n c op)) (hy : evL l y = some (.sl none 0 0 false)) : MVO K hp0 l L (.binOp .eql t x y t') (.b false) := by
 obtain ⟨ti, h1, h2⟩ := hS.h
 exact mv_eql hx hy rfl fun hp => by simp only [veqOp, veq, h1, Option.bind_some, h2]
end
/- Wk: from the machine's memory to the world's: what a call from a small memory leaves as it was. By this project. -/
def Whole1 (E : Env) (t : Tr VO) : Prop := ∀ h o, t.get h = some o → roB h = false → ∃ cs T b, o = .cells cs T none false ∧ E h = some (b, 0, 0)
theorem keep_all {E E' : Env} {hp hp' : Hp} {w w' : World} {N : HV} (hw : Whole1 E hp.t) (ho : OkH hp) (hR : Rep E hp.t w) (hO : Out E hp w E' hp' w') (hs : SV ⟨hp, []⟩ hp' N) : ∀ k, k < w.heap.size → w'.heap[k]? = w.heap[k]? := fun k hk => by
 rcases Classical.em (∃ h o e, hp.t.get h = some o ∧ E h = some e ∧ roB h = false ∧ e.1 = k) with ⟨h, o, e, h1, h2, h3, h4⟩ | hn
 ·obtain ⟨cs, T, b, rfl, h5⟩ := hw h o h1 h3
  rw [h2] at h5
  obtain rfl := Option.some.inj h5
  have h4 : b = k := h4
  subst h4
  have hlt : h < hp.nx := by
   rcases Nat.lt_or_ge h hp.nx with q | q
   ·exact q
   ·rw [ho.top h q h3] at h1; simp at h1
  have h6 : hp'.t.get h = some (.cells cs T none false) := by rw [hs.old h (not_own0 (.inl hlt))]; exact h1
  obtain ⟨b1, x1, p1, l1, s1, f1, a1, a2, a3, a4, a5, a6, a7, a8⟩ := rep_cells hR h1
  obtain ⟨b2, x2, p2, l2, s2, f2, c1, c2, c3, c4, c5, c6, c7, c8⟩ := rep_cells hO.rep h6
  rw [h2] at a1
  rw [hO.le h _ h2] at c1
  simp only [Option.some.injEq, Prod.mk.injEq] at a1 c1
  obtain ⟨rfl, e1, rfl⟩ := a1
  obtain ⟨rfl, e2, rfl⟩ := c1
  have q1 : p1 = [] := List.length_eq_zero_iff.1 e1.symm
  have q2 : p2 = [] := List.length_eq_zero_iff.1 e2.symm
  subst q1 q2
  obtain ⟨rfl, _⟩ := a5 rfl
  obtain ⟨rfl, _⟩ := c5 rfl
  obtain rfl := a7 rfl
  obtain rfl := c7 rfl
  have := renL_mono hO.le a3
  rw [c3] at this
  obtain rfl := Option.some.inj this
  rw [a2, c2]
 ·exact hO.frm.keep k hk fun h o e h1 h2 h3 h4 => hn ⟨h, o, e, h1, h2, h3, h4⟩
end Go.Proofs.Ytabpegdalmagpaa
/- What a law's row asks, out of a call that hands back true and turns nothing that was there. By this project. -/
namespace Go.Proofs.Ytabpegdalmagpaa
open Go.ChangeShapes Go.WideShapes Go.ChangeAt Go.RowKit
section
variable {H : Type} {enc : TypeId × Value → H} {P : Program}
theorem trodAll_below (hl : laidOutB P = true) {W W' : World} (hb : Below W.heap.size W W') : ∀ (ts : List TypeId) (vs : List Value) (ds : List (DataW H)) (ps : List MemPlace), (ts.all fun t => P.readableRec t && decide (t < P.types.size)) = true →
  DataW.TrodAll enc P W 0 (fun _ => true) true ts vs ds ps → (∀ x ∈ ps, x.block < W.heap.size) → DataW.TrodAll enc P W' 0 (fun b => decide (b < W.heap.size)) true ts vs ds ps
 | [], vs, ds, ps, _, h, _ => by
  cases vs <;> cases ds <;> simp [DataW.TrodAll] at h ⊢
  exact h
 | t :: ts, vs, ds, ps, ht, h, hlt => by
  obtain ⟨v, vs', d, ds', p, q, rfl, rfl, rfl, h1, h2⟩ := trodAll_cons h
  simp only [List.all_cons, Bool.and_eq_true, decide_eq_true_eq] at ht
  have k1 := Below.trod hl ht.1.1 ht.1.2 h1 hb (fun x hx => hlt x (by simp [hx]))
  have k2 := trodAll_below hl hb ts vs' ds' q ht.2 h2 (fun x hx => hlt x (by simp [hx]))
  exact ⟨p, q, k1, k2, rfl⟩
theorem law_post {f : Func} {s : ChangeSpec} {W W' : World} {args : Array Value} {ds gs : List (DataW H)} {before : List MemPlace} {tb : TypeId} (hW : DataW.Whole enc P f.params.toList s.vars false W args.toList ds gs before)
  (hl : laidOutB P = true) (hp : (f.params.toList.all fun t => P.readableRec t && decide (t < P.types.size)) = true) (hr : f.resultTypes = #[tb]) (hb : P.underlying tb = some .bool) (hs : s.vars = [])
  (h1 : (s.fn H (ds ++ gs)).results = [.lit (.bool true)]) (h2 : (s.fn H (ds ++ gs)).args = ds) (h3 : (s.fn H (ds ++ gs)).vars = []) (hbel : Below W.heap.size W W') :
  s.post enc P f false true false false W args (.bool true) W' := by
 have hW' := hW
 obtain ⟨p, q, hA, hV, rfl, hfz, hnd⟩ := hW
 rw [hs] at hV
 obtain ⟨rfl, rfl⟩ := trodVars_none hV
 refine ⟨ds, [], _, [], p, [], hW', ?_, ?_, ?_, hbel.frame _, fun h => by cases h⟩
 ·rw [h1, hr]
  exact trodAll_mk1 (shut_bool hb true)
 ·rw [h2]
  exact trodAll_below hl hbel _ _ _ _ hp hA (fun x hx => by simpa using hW'.lt x (by simpa using hx))
 ·rw [h3, hs]
  rfl
end
section
variable {H : Type} {enc : TypeId × Value → H} {P : Program} {w : World} {base fuel : Nat} {sp : Nat → Bool} {held : Bool} {t e : TypeId} {cs : List Value} {ds : List (DataW H)} {p : List MemPlace}
end
theorem trodAll_nil {H : Type} {enc : TypeId × Value → H} {P : Program} {W : World} {b : Nat} {sp : Nat → Bool} {vs : List Value} {ds : List (DataW H)} {held : Bool} {p : List MemPlace} (h : DataW.TrodAll enc P W b sp held [] vs ds p) : vs = [] ∧ ds = [] := by
 cases vs <;> cases ds <;> simp [DataW.TrodAll] at h ⊢
end Go.Proofs.Ytabpegdalmagpaa
/- Vgl: package variables of numbers and truth values at a law's beginning. By this project. -/
set_option maxRecDepth 100000
namespace Go.Proofs.Ytabpegdalmagpaa
open Go.ChangeShapes Go.WideShapes Go.ChangeAt Go.RowKit Go.Extern.Stop
abbrev Gs := List (Nat × List V × TypeId)
noncomputable def gsT : Gs → Tr VO
 | [] => .lf
 | (g, cs, T) :: r => (gsT r).set g (some (.cells cs T none false))
theorem gsT_get : ∀ {gs : Gs}, (∀ x ∈ gs, x.1 < trMax) → ∀ h o, (gsT gs).get h = some o → ∃ x ∈ gs, x.1 = h ∧ o = .cells x.2.1 x.2.2 none false
 | [], _, h, o, ho => by rw [gsT, Tr.get_eq, tr_get_lf] at ho; simp at ho
 | (g, cs, T) :: r, hl, h, o, ho => by
  rw [gsT, Tr.get_set _ _ _] at ho
  split at ho
  ·rename_i e
   simp only [Option.some.injEq] at ho
   exact ⟨(g, cs, T), by simp, e.symm, ho.symm⟩
  ·obtain ⟨x, h1, h2⟩ := gsT_get (fun x hx => hl x (List.mem_cons_of_mem _ hx)) h o ho
   exact ⟨x, List.mem_cons_of_mem _ h1, h2⟩
def GOk (W : World) (x : Nat × List V × TypeId) : Prop := x.1 < gMax ∧ ∃ l, (∀ E, renL E x.2.1 = some l) ∧ l.all (·.oneCell') = true ∧ W.heap[x.1]? = some (.cells l.toArray x.2.2 (0, 0))
mutual
def flatD {H : Type} : DataW H → Option (List Value)
 | .lit (.int k n) => some [.int k n]
 | .lit (.bool b) => some [.bool b]
 | .agg ds => flatDs ds
 | _ => none
def flatDs {H : Type} : List (DataW H) → Option (List Value)
 | [] => some []
 | d :: r => (flatD d).bind fun a => (flatDs r).bind fun b => some (a ++ b)
end
section
variable {H : Type} {enc : TypeId × Value → H} {P : Program} {w : World} {base : Nat} {sp : Nat → Bool} {held : Bool}
end
end Go.Proofs.Ytabpegdalmagpaa
/- Wl: a law whose arguments hold slices of bytes: from a contract of the machine to a call in the world. By this project. -/
set_option maxRecDepth 100000
namespace Go.Proofs.Ytabpegdalmagpaa
open Go.RowKit Go.Extern.Stop
structure BV where
 A : Option Addr
 xs : List UInt8
 c : Nat
 T : TypeId
 ex : Nat
structure BvOk (W : World) (q : BV) : Prop where
 emp : q.A = none → q.xs = []
 spot : ∀ a, q.A = some a → a.spot = none
 at' : ∀ a, q.A = some a → q.xs ≠ [] → ∃ pre sp fz, W.heap[a.block]? = some (.cells (pre ++ q.xs.map cell ++ sp).toArray q.T fz) ∧ pre.length = a.off ∧ sp.length = q.ex
def notByte : V → Bool
 | .i .u8 _ => false
 | .i _ _ => true
 | .b _ => true
 | _ => false
theorem roB_view (i : Nat) : roB (65 + 4 * i) = true := by
 have e : (65 + 4 * i) % 2 = 1 := by omega
 have e2 : Nat.ble gMax (65 + 4 * i) = true := ble_t (by show 64 ≤ _; omega)
 unfold roB
 rw [e2]
 show Nat.beq ((65 + 4 * i) % 2) 1 = true
 rw [e]
 rfl
theorem wk_view (i : Nat) : wkB (65 + 4 * i) = false := by
 have e : (65 + 4 * i) % 4 = 1 := by omega
 unfold wkB
 split
 ·rename_i h
  have h : (65 + 4 * i) % 4 = 3 := Nat.eq_of_beq_eq_true h
  omega
 ·rfl
theorem renL_bytes {E : Env} : ∀ (xs : List UInt8), renL E (xs.map byV) = some (xs.map cell)
 | [] => rfl
 | x :: r => by
  have e : ren E (byV x) = some (cell x) := rfl
  simp [renL, e, renL_bytes r]
section
variable {gs : Gs} {bs : List BV} {W : World} (hg : ∀ x ∈ gs, GOk W x) (hnb : ∀ x ∈ gs, x.2.1.all notByte = true) (hb : ∀ q ∈ bs, BvOk W q)
include hg hnb hb
end
/- Wv: a law whose arguments hold slices of whatever lies in memory: from a contract of the machine to a call in the world. By this project. -/
structure GV where
 A : Option Addr
 cs : List V
 T : TypeId
 sz : Nat
 ex : Nat
def headOk1 : List V → Bool
 | [] => true
 | .i .u8 _ :: _ => true
 | .sl _ _ _ _ :: _ => true
 | _ => false
def headOk (cs : List V) : Bool := cs.isEmpty || cs.any fun v => headOk1 [v]
structure GvOk (W : World) (E : Env) (q : GV) : Prop where
 emp : q.A = none → q.cs = []
 spot : ∀ a, q.A = some a → a.spot ≠ none → q.cs = []
 at' : ∀ a, q.A = some a → q.cs ≠ [] → ∃ pre l sp fz, renL E q.cs = some l ∧ l.all (·.oneCell') = true ∧ W.heap[a.block]? = some (.cells (pre ++ l ++ sp).toArray q.T fz) ∧ pre.length = a.off ∧ sp.length = q.ex * q.sz
 hd : headOk q.cs = true
def gvE (bs : List GV) : Env := fun x => match decide (x < gMax) with
 | true => some (x, 0, 0)
 | false => match roB x with
  | true => (bs[(x - 65) / 4]?).bind fun q => q.A.bind fun a => match wkB x with
   | true => a.spot.map fun s => (a.block, a.off, s)
   | false => some (a.block, a.off, q.ex)
  | false => none
def gvA (i : Nat) (q : GV) : Option (Nat × Nat) := q.A.map fun a => (match a.spot with
 | none => 65 + 4 * i
 | some _ => 67 + 4 * i, 0)
noncomputable def gvT : List GV → Nat → Tr VO → Tr VO
 | [], _, t => t
 | q :: r, i, t => gvT r (i + 1) (match q.cs with
  | [] => t
  | _ => t.set (65 + 4 * i) (some (.cells (q.cs) q.T (some q.sz) true)))
def gvV (i : Nat) (q : GV) (n c : Nat) : V := .sl (gvA i q) n c false
theorem gvT_lo : ∀ (bs : List GV) (i : Nat) (t : Tr VO) (x : Nat), x < 65 + 4 * i → (gvT bs i t).get x = t.get x
 | [], _, _, _, _ => rfl
 | q :: r, i, t, x, h => by
  rw [gvT, gvT_lo r (i + 1) _ x (by omega)]
  split
  ·rfl
  ·rw [Tr.get_set, if_neg (by omega)]
theorem gvT_at : ∀ (bs : List GV) (i : Nat) (t : Tr VO) (j : Nat) (q : GV), bs[j]? = some q → q.cs ≠ [] → (gvT bs i t).get (65 + 4 * (i + j)) = some (.cells (q.cs) q.T (some q.sz) true)
 | [], _, _, _, _, h, _ => by simp at h
 | q :: r, i, t, 0, p, h, hn => by
  simp only [List.getElem?_cons_zero, Option.some.injEq] at h
  subst h
  rw [gvT, gvT_lo r (i + 1) _ _ (by omega)]
  split
  ·rename_i e
   exact absurd e hn
  ·rw [Nat.add_zero, Tr.get_set, if_pos rfl]
 | q :: r, i, t, j + 1, p, h, hn => by
  rw [gvT, show i + (j + 1) = (i + 1) + j by omega]
  exact gvT_at r (i + 1) _ j p (by simpa using h) hn
theorem gvT_inv : ∀ (bs : List GV) (i : Nat) (t : Tr VO) (x : Nat) (o : VO), (gvT bs i t).get x = some o → t.get x = some o ∨ ∃ j q, bs[j]? = some q ∧ q.cs ≠ [] ∧ x = 65 + 4 * (i + j) ∧ o = .cells (q.cs) q.T (some q.sz) true
 | [], _, _, _, _, h => .inl h
 | q :: r, i, t, x, o, h => by
  rw [gvT] at h
  rcases gvT_inv r (i + 1) _ x o h with h1 | ⟨j, p, h1, h2, h3, h4⟩
  ·split at h1
   ·exact .inl h1
   ·rename_i hne
    rw [Tr.get_set] at h1
    split at h1
    ·rename_i e
     exact .inr ⟨0, q, rfl, fun e2 => hne e2, by rw [Nat.add_zero]; exact e, (Option.some.inj h1).symm⟩
    ·exact .inl h1
  ·exact .inr ⟨j + 1, p, by simpa using h1, h2, by omega, h4⟩
theorem notInt_ren {E : Env} : ∀ {cs : List V} {l : List Value}, cs.all notByte = true → renL E cs = some l → ∀ v ∈ l, ∀ n : Int, v ≠ .int .u8 n
 | [], l, _, h, v, hv, y => by simp [renL] at h; subst h; simp at hv
 | c :: r, l, ha, h, v, hv, y => by
  simp only [List.all_cons, Bool.and_eq_true] at ha
  obtain ⟨x, t, h1, h2, rfl⟩ := renL_cons h
  rcases List.mem_cons.1 hv with rfl | hv
  ·intro e
   subst e
   cases c with
   | i k n =>
    simp [ren] at h1
    obtain ⟨rfl, _⟩ := h1
    simp [notByte] at ha
   | b b => simp [ren] at h1
   | _ => simp [notByte] at ha
  ·exact notInt_ren ha.2 h2 v hv y
theorem notSl_ren {E : Env} : ∀ {cs : List V} {l : List Value}, cs.all notByte = true → renL E cs = some l → ∀ v ∈ l, ∀ A m c, v ≠ .slice A m c
 | [], l, _, h, v, hv, _, _, _ => by simp [renL] at h; subst h; simp at hv
 | c :: r, l, ha, h, v, hv, A, m, k => by
  simp only [List.all_cons, Bool.and_eq_true] at ha
  obtain ⟨x, t, h1, h2, rfl⟩ := renL_cons h
  rcases List.mem_cons.1 hv with rfl | hv
  ·intro e
   subst e
   cases c with
   | i k n => simp [ren] at h1
   | b b => simp [ren] at h1
   | _ => simp [notByte] at ha
  ·exact notSl_ren ha.2 h2 v hv A m k
theorem notByte_hd {E : Env} {cs : List V} {l : List Value} {v : V} {r : List V} {x : Value} (ha : cs.all notByte = true) (h : renL E cs = some l) (hv : headOk1 (v :: r) = true) (hx : ren E v = some x) : x ∉ l := by
 intro hm
 cases v with
 | i k n =>
  cases k <;> simp [headOk1] at hv
  simp only [ren, Option.some.injEq] at hx
  subst hx
  exact notInt_ren ha h _ hm n rfl
 | sl A m c o =>
  obtain ⟨A', m', c', rfl⟩ : ∃ A' m' c', x = .slice A' m' c' := by
   cases A with
   | none => simp [ren] at hx; exact ⟨_, _, _, hx.symm⟩
   | some a =>
    obtain ⟨e, _, ⟨_, rfl⟩ | ⟨_, _, _, _, rfl⟩⟩ := ren_slk hx <;> exact ⟨_, _, _, rfl⟩
  exact notSl_ren ha h _ hm _ _ _ rfl
 | _ => simp [headOk1] at hv
theorem renL_mem {E : Env} : ∀ {cs : List V} {l : List Value} {v : V}, renL E cs = some l → v ∈ cs → ∃ x ∈ l, ren E v = some x
 | [], l, v, h, hv => by simp at hv
 | y :: r, l, v, h, hv => by
  obtain ⟨x, t, h1, h2, rfl⟩ := renL_cons h
  rcases List.mem_cons.1 hv with rfl | hv
  ·exact ⟨x, List.mem_cons_self, h1⟩
  ·obtain ⟨z, h3, h4⟩ := renL_mem h2 hv
   exact ⟨z, List.mem_cons_of_mem _ h3, h4⟩
theorem roB_wk (i : Nat) : roB (67 + 4 * i) = true ∧ wkB (67 + 4 * i) = true := by
 have e : (67 + 4 * i) % 2 = 1 := by omega
 have e4 : (67 + 4 * i) % 4 = 3 := by omega
 have e2 : Nat.ble gMax (67 + 4 * i) = true := ble_t (by show 64 ≤ _; omega)
 have h1 : roB (67 + 4 * i) = true := by
  unfold roB
  rw [e2]
  show Nat.beq ((67 + 4 * i) % 2) 1 = true
  rw [e]; rfl
 refine ⟨h1, ?_⟩
 have e5 : Nat.beq (Nat.mod (67 + 4 * i) 4) 3 = true := by show Nat.beq ((67 + 4 * i) % 4) 3 = true; rw [e4]; rfl
 unfold wkB
 rw [e5]
 exact h1
theorem gvE_view {bs : List GV} {i : Nat} {q : GV} (h : bs[i]? = some q) : gvE bs (65 + 4 * i) = q.A.map fun a => (a.block, a.off, q.ex) := by
 have e1 : decide (65 + 4 * i < gMax) = false := decide_eq_false (by show ¬ _ < 64; omega)
 have e2 : (65 + 4 * i - 65) / 4 = i := by omega
 simp only [gvE, e1, roB_view, e2, h, Option.bind_some, wk_view]
 cases q.A <;> rfl
theorem gvE_wk {bs : List GV} {i : Nat} {q : GV} {a : Addr} {s : Nat} (h : bs[i]? = some q) (hA : q.A = some a) (hs : a.spot = some s) : gvE bs (67 + 4 * i) = some (a.block, a.off, s) := by
 have e1 : decide (67 + 4 * i < gMax) = false := decide_eq_false (by show ¬ _ < 64; omega)
 have e2 : (67 + 4 * i - 65) / 4 = i := by omega
 simp only [gvE, e1, (roB_wk i).1, (roB_wk i).2, e2, h, Option.bind_some, hA, hs, Option.map_some]
theorem gvE_gl (bs : List GV) : GlE (gvE bs) := fun g hg => by simp only [gvE, decide_eq_true hg]
noncomputable def gvHp (gs : Gs) (bs : List GV) : Hp := ⟨gvT bs 0 (gsT gs), 66 + 4 * bs.length, []⟩
theorem ren_gv {bs : List GV} {i : Nat} {q : GV} {n c : Nat} (h : bs[i]? = some q) (hw : ∀ a, q.A = some a → a.spot ≠ none → n = 0 ∧ c = 0) : ren (gvE bs) (gvV i q n c) = some (.slice q.A n c) := by
 unfold gvV gvA
 cases hA : q.A with
 | none => simp [ren]
 | some a =>
  simp only [Option.map_some]
  cases hs : a.spot with
  | none =>
   have e := gvE_view h
   rw [hA] at e
   simp only
   rw [ren_sl_mk e (wk_view i)]
   obtain ⟨b, o, s⟩ := a
   simp only at hs
   subst hs
   simp
  | some s =>
   obtain ⟨rfl, rfl⟩ := hw a hA (by rw [hs]; simp)
   simp only
   rw [ren_sl_wk (gvE_wk h hA hs) (roB_wk i).2]
   obtain ⟨b, o, s'⟩ := a
   simp only at hs
   subst hs
   rfl
section
variable {gs : Gs} {bs : List GV} {W : World} (hg : ∀ x ∈ gs, GOk W x) (hnb : ∀ x ∈ gs, x.2.1.all notByte = true) (hb : ∀ q ∈ bs, GvOk W (gvE bs) q)
include hg hnb hb
theorem gv_rep : Rep (gvE bs) (gvHp gs bs).t W := by
 have hlt : ∀ x ∈ gs, x.1 < trMax := fun x hx => by have := (hg x hx).1; unfold gMax at this; unfold trMax; omega
 have key : ∀ x o, (gvHp gs bs).t.get x = some o → (∃ g ∈ gs, g.1 = x ∧ o = .cells g.2.1 g.2.2 none false) ∨ ∃ j q, bs[j]? = some q ∧ q.cs ≠ [] ∧ x = 65 + 4 * j ∧ o = .cells (q.cs) q.T (some q.sz) true := fun x o h => by
  rcases gvT_inv bs 0 _ x o h with h | ⟨j, q, h1, h2, h3, h4⟩
  ·exact .inl (gsT_get hlt x o h)
  ·exact .inr ⟨j, q, h1, h2, by rw [h3, Nat.zero_add], h4⟩
 have hview : ∀ j q, bs[j]? = some q → q.cs ≠ [] → ∃ a pre l sp fz, q.A = some a ∧ gvE bs (65 + 4 * j) = some (a.block, a.off, q.ex) ∧ renL (gvE bs) q.cs = some l ∧ l.all (·.oneCell') = true ∧ W.heap[a.block]? = some (.cells (pre ++ l ++ sp).toArray q.T fz) ∧ pre.length = a.off ∧ sp.length = q.ex * q.sz := fun j q h hn => by
  have ok := hb q (List.mem_of_getElem? h)
  cases hA : q.A with
  | none => exact absurd (ok.emp hA) hn
  | some a =>
   obtain ⟨pre, l, sp, fz, h1, h2, h3, h4, h5⟩ := ok.at' a hA hn
   exact ⟨a, pre, l, sp, fz, rfl, by rw [gvE_view h, hA]; rfl, h1, h2, h3, h4, h5⟩
 have apart : ∀ g ∈ gs, ∀ j q e, bs[j]? = some q → q.cs ≠ [] → gvE bs (65 + 4 * j) = some e → e.1 ≠ g.1 := fun g hgm j q e h hn he hc => by
  obtain ⟨a, pre, l2, sp, fz, hA, h1, hr, _, h2, h3, h4⟩ := hview j q h hn
  rw [h1] at he
  obtain rfl := Option.some.inj he
  obtain ⟨_, l, k1, k2, k3⟩ := hg g hgm
  have hc : a.block = g.1 := hc
  rw [hc, k3] at h2
  simp only [Option.some.injEq, Obj.cells.injEq] at h2
  have h5 : l = pre ++ l2 ++ sp := by
   have := congrArg Array.toList h2.1
   simpa using this
  have hd := (hb q (List.mem_of_getElem? h)).hd
  obtain ⟨v, hv, hv1⟩ : ∃ v ∈ q.cs, headOk1 [v] = true := by
   unfold headOk at hd
   rw [Bool.or_eq_true, List.any_eq_true] at hd
   rcases hd with hd | hd
   ·exact absurd (List.isEmpty_iff.1 hd) hn
   ·exact hd
  obtain ⟨x, hx, q1⟩ := renL_mem hr hv
  exact notByte_hd (r := []) (hnb g hgm) (k1 (gvE bs)) hv1 q1 (by rw [h5]; simp [hx])
 refine ⟨fun x o h => ?_, fun x y o o' e e' hx hy hex hey hee => ?_⟩
 ·rcases key x o h with ⟨g, hgm, rfl, rfl⟩ | ⟨j, q, h1, h2, rfl, rfl⟩
  ·obtain ⟨k0, l, k1, k2, k3⟩ := hg g hgm
   exact ⟨(g.1, 0, 0), _, gvE_gl bs _ k0, k3, [], l, [], (0, 0), k1 _, k2, rfl, by simp, fun _ => ⟨rfl, rfl⟩, fun s hs => by simp at hs, fun _ => rfl, .inl rfl⟩
  ·obtain ⟨a, pre, l, sp, fz, hA, k1, kr, ko, k2, k3, k4⟩ := hview j q h1 h2
   refine ⟨_, _, k1, k2, pre, l, sp, fz, kr, ko, k3, rfl, fun e => by simp at e, fun s hs => ?_, fun e => by simp at e, .inr (.inr (roB_view j))⟩
   simp only [Option.some.injEq] at hs
   subst hs
   exact k4
 ·rcases key x o hx with ⟨g, hgm, rfl, rfl⟩ | ⟨j, q, h1, h2, rfl, rfl⟩ <;> rcases key y o' hy with ⟨g', hgm', rfl, rfl⟩ | ⟨j', q', h1', h2', rfl, rfl⟩
  ·rw [gvE_gl bs _ (hg g hgm).1] at hex
   rw [gvE_gl bs _ (hg g' hgm').1] at hey
   obtain rfl := Option.some.inj hex
   obtain rfl := Option.some.inj hey
   exact .inl hee
  ·rw [gvE_gl bs _ (hg g hgm).1] at hex
   obtain rfl := Option.some.inj hex
   exact absurd hee.symm (apart g hgm j' q' e' h1' h2' hey)
  ·rw [gvE_gl bs _ (hg g' hgm').1] at hey
   obtain rfl := Option.some.inj hey
   exact absurd hee (apart g' hgm' j q e h1 h2 hex)
  ·exact .inr ⟨roB_view j, roB_view j'⟩
theorem gv_okH : OkH (gvHp gs bs) := by
 refine ⟨fun h hh hr => ?_, ?_⟩
 ·have hh : 66 + 4 * bs.length ≤ h := hh
  cases hq : (gvHp gs bs).t.get h with
  | none => rfl
  | some o =>
   rcases gvT_inv bs 0 _ h o hq with h1 | ⟨j, q, h1, h2, h3, h4⟩
   ·obtain ⟨g, hgm, rfl, _⟩ := gsT_get (fun x hx => by have := (hg x hx).1; unfold gMax at this; unfold trMax; omega) h o h1
    have := (hg g hgm).1
    have : g.1 < 64 := this
    omega
   ·rw [h3, Nat.zero_add, roB_view] at hr
    simp at hr
 ·have e : (66 + 4 * bs.length) % 2 = 0 := by omega
  show (Nat.beq ((66 + 4 * bs.length) % 2) 0 && Nat.ble gMax (66 + 4 * bs.length)) = true
  rw [e, ble_t (show gMax ≤ 66 + 4 * bs.length by show 64 ≤ _; omega)]
  rfl
theorem gv_ro {i : Nat} {q : GV} (h : bs[i]? = some q) : RB ⟨gvHp gs bs, []⟩ (gvA i q) (q.cs) := by
 have hro : RO (gvHp gs bs) (gvA i q) (q.cs) := by
  unfold gvA
  refine ⟨fun b o e => ?_, fun j v hv => ?_⟩
  ·simp only [Option.map_eq_some_iff, Prod.mk.injEq] at e
   obtain ⟨a, _, rfl, _⟩ := e
   split
   ·exact .inr (roB_view i)
   ·exact .inr (roB_wk i).1
  ·have hn : q.cs ≠ [] := fun e => by rw [e] at hv; simp at hv
   cases hA : q.A with
   | none => exact absurd ((hb q (List.mem_of_getElem? h)).emp hA) hn
   | some a =>
    have hsp : a.spot = none := by
     cases hq : a.spot with
     | none => rfl
     | some x => exact absurd ((hb q (List.mem_of_getElem? h)).spot a hA (by rw [hq]; simp)) hn
    refine ⟨65 + 4 * i, 0, by rw [Option.map_some, hsp], ?_⟩
    have e := gvT_at bs 0 (gsT gs) i q h hn
    rw [Nat.zero_add] at e
    have e' : (gvHp gs bs).t.get (65 + 4 * i) = some (.cells (q.cs) q.T (some q.sz) true) := e
    simp only [cellV, cellsAt, Hp.get, e', Option.bind_some, Nat.zero_add]
    exact hv
 exact ⟨hro, now0 hro⟩
theorem gv_law {P : Program} {C : Cx} {ext : CallF} {extd : DefF} (hc : ∀ n, CallOk P (vcall C ext extd n)) {f : Nat} {args : List V} {vargs : List Value} (hargs : renL (gvE bs) args = some vargs) (hfn : Fn ⟨C, ext, extd⟩ f args (gvHp gs bs) [] fun r _ => r = .v (.b true)) :
  Calls P f vargs.toArray W fun e W' => e = .returned (.bool true) ∧ Below W.heap.size W W' := by
 have hR := gv_rep hg hnb hb
 have hO := gv_okH hg hnb hb
 unfold Fn at hfn
 obtain ⟨r, hp', ⟨M, hrun⟩, N', hsv, hstp, rfl⟩ := hfn
 obtain ⟨_, _, key⟩ := hc M _ _ _ _ _ (hrun M (Nat.le_refl _))
 refine (key (gvE bs) W vargs hR (gvE_gl bs) hargs (fun x h1 h2 => ?_)).mono ?_
 ·have h1 : 66 + 4 * bs.length ≤ x := h1
  have e1 : decide (x < gMax) = false := decide_eq_false (by show ¬ _ < 64; omega)
  simp only [gvE, e1]
  split
  ·rw [List.getElem?_eq_none (by omega)]
   rfl
  ·rfl
 ·rintro e w' ⟨E', hOut, x, hx, rfl⟩
  have hx' : x = .bool true := by simpa [ren] using hx.symm
  subst hx'
  have hW1 : Whole1 (gvE bs) (gvHp gs bs).t := fun x o hx hr => by
   rcases gvT_inv bs 0 _ x o hx with h1 | ⟨j, q, h1, h2, h3, h4⟩
   ·obtain ⟨g, hgm, rfl, rfl⟩ := gsT_get (fun x hx => by have := (hg x hx).1; unfold gMax at this; unfold trMax; omega) x o h1
    exact ⟨_, _, _, rfl, gvE_gl bs _ (hg g hgm).1⟩
   ·rw [h3, Nat.zero_add, roB_view] at hr
    simp at hr
  exact ⟨rfl, hOut.frm.os, hOut.frm.tape, hOut.frm.output, hOut.frm.size, keep_all hW1 hO hR hOut hsv⟩
end
end Go.Proofs.Ytabpegdalmagpaa
/- Wo: opening slices of bytes and rows of bytes that are handed in. By this project. -/
namespace Go.Proofs.Ytabpegdalmagpaa
open Go.ChangeShapes Go.WideShapes Go.ChangeAt Go.RowKit Go.Extern.Stop
open Go.Extern.Stop in
theorem bytes_of_cells : ∀ (L : List Value), (∀ v ∈ L, ∃ n, v = .int .u8 n ∧ IntKind.u8.has n) → ∃ xs : List UInt8, L = xs.map cell
 | [], _ => ⟨[], rfl⟩
 | v :: r, h => by
  obtain ⟨n, rfl, hn⟩ := h v (by simp)
  obtain ⟨xs, rfl⟩ := bytes_of_cells r (fun v hv => h v (by simp [hv]))
  refine ⟨UInt8.ofNat n.toNat :: xs, ?_⟩
  have h1 : 0 ≤ n ∧ n ≤ 255 := by simpa [IntKind.has, IntKind.min, IntKind.max, IntKind.signed, IntKind.bits] using hn
  have : ((UInt8.ofNat n.toNat).toNat : Int) = n := by simp; omega
  show _ = Value.int .u8 ((UInt8.ofNat n.toNat).toNat : Int) :: _
  rw [this]
section
variable {H : Type} {enc : TypeId × Value → H} {P : Program} {W : World} {base : Nat} {held : Bool} {t e q : TypeId}
structure OpenB (W : World) (v : Value) (xs : List UInt8) (d : DataW H) : Prop where
 get : ∃ A c, v = .slice A xs.length c ∧ xs.length ≤ c ∧ RW W A (xs.map cell)
 shape : xs = [] ∨ ∃ elems spare, d = .slice elems spare ∧ elems.length = xs.length
theorem open_b (ht : sliceT P t = some e) (he : intT P e = some .u8) (hc : P.cellsOf e = 1) {fuel : Nat} {cs : List Value} {d : DataW H} {ps : List MemPlace} (h : DataW.trod enc P W base (fun _ => true) held fuel t cs = some (d, ps)) :
  ∃ v xs, cs = [v] ∧ OpenB W v xs d := by
 rcases open_ints (und_slice ht) (und_int he) hc h with ⟨rfl, hx⟩ | ⟨a, len, cap, zs, rfl, hb, hl, hm, hz, hx, hcell, hwf⟩
 ·exact ⟨_, [], rfl, ⟨none, 0, rfl, Nat.le_refl _, fun j v hv => by simp at hv⟩, .inl rfl⟩
 ·simp only [if_true] at hz
  simp only [Prod.mk.injEq] at hx
  obtain ⟨rfl, _⟩ := hx
  obtain ⟨xs, hxs⟩ := bytes_of_cells ((zs.take len).map fun n => .int .u8 n) (fun v hv => by
   obtain ⟨n, hn, rfl⟩ := List.mem_map.1 hv
   refine ⟨n, rfl, ?_⟩
   have := hwf n (List.mem_of_mem_take hn)
   simpa [Lit.wf, IntKind.has] using this)
  have hlen : xs.length = len := by
   have := congrArg List.length hxs
   simp at this
   omega
  refine ⟨_, xs, by rw [← hlen], ⟨some a, cap, rfl, by omega, fun j v hv => ?_⟩, .inr ⟨_, _, rfl, by simp [lits]; omega⟩⟩
  ·rw [← hxs, List.getElem?_map, List.getElem?_take] at hv
   split at hv
   ·rename_i hj
    have h1 := hcell j (by omega)
    have hj2 : j < zs.length := by omega
    rw [List.getElem?_eq_getElem hj2, Option.map_some, Option.some.injEq] at hv
    refine ⟨a, rfl, ?_⟩
    rw [h1, ← hv]
    simp [List.getD, hj2]
   ·simp at hv
end
/- Wx: what is handed in, nested: slices of structs of slices; the contract of a law whose arguments' memory is known to be well made. By this project. -/
theorem rw_block {W : World} {a : Addr} {cs : List Value} (hs : a.spot = none) (hn : cs ≠ []) (h : RW W (some a) cs) : ∃ pre sp T fz, W.heap[a.block]? = some (.cells (pre ++ cs ++ sp).toArray T fz) ∧ pre.length = a.off := by
 obtain ⟨x, r, rfl⟩ := List.exists_cons_of_ne_nil hn
 obtain ⟨ab, ao, sp⟩ := a
 simp only at hs
 subst hs
 have hcell : ∀ j v, (x :: r)[j]? = some v → W.cell? ⟨ab, ao + j, none⟩ = some v := fun j v hv => by
  obtain ⟨ad, e, h1⟩ := h j v hv
  obtain rfl := Option.some.inj e
  rw [Addr.add_mid] at h1
  exact h1
 obtain ⟨C, T, fz, hb⟩ : ∃ C T fz, W.heap[ab]? = some (.cells C T fz) := by
  have h0 := hcell 0 x rfl
  unfold World.cell? at h0
  simp only at h0
  split at h0
  ·rename_i c t f hq
   exact ⟨c, t, f, hq⟩
  ·simp at h0
 have hC : ∀ j v, (x :: r)[j]? = some v → C.toList[ao + j]? = some v := fun j v hv => by
  have h1 := hcell j v hv
  unfold World.cell? at h1
  simp only [hb, Option.isSome_none, Bool.false_eq_true, if_false] at h1
  simpa using h1
 have hlen : ao + (x :: r).length ≤ C.toList.length := by
  have := hC r.length ((x :: r)[r.length]'(by simp)) (List.getElem?_eq_getElem (by simp))
  have := (List.getElem?_eq_some_iff.1 this).1
  simp only [List.length_cons]
  omega
 have hmid : (C.toList.drop ao).take (x :: r).length = x :: r := by
  apply List.ext_getElem?
  intro j
  rw [List.getElem?_take]
  split
  ·rename_i hj
   rw [List.getElem?_drop]
   rw [hC j ((x :: r)[j]) (List.getElem?_eq_getElem hj), List.getElem?_eq_getElem hj]
  ·rename_i hj
   rw [List.getElem?_eq_none (by omega)]
 refine ⟨C.toList.take ao, C.toList.drop (ao + (x :: r).length), T, fz, ?_, by rw [List.length_take]; exact Nat.min_eq_left (by omega)⟩
 have e : C.toList.take ao ++ ((C.toList.drop ao).take (x :: r).length ++ (C.toList.drop ao).drop (x :: r).length) = C.toList := by rw [List.take_append_drop, List.take_append_drop]
 rw [hmid, List.drop_drop, ← List.append_assoc] at e
 rw [hb, e]
end Go.Proofs.Ytabpegdalmagpaa
/- Wr: appends to a literal; equal arrays told as equal; strings; what lies behind a value that was handed out. By this project. -/
set_option maxRecDepth 100000
namespace Go.Proofs.Ytabpegdalmagpaa
open Go.RowKit Go.Extern.Stop
section
variable {K : Kx} {hp0 : Bs} {l : VL} {L : HV} {a b : Operand} {t t' : TypeId}
theorem m_eqA {e : TypeId} {n : Nat} {ti : TI} {xs ys : List UInt8} [ht : TiV K.C t ti] [hA : ArrV K.C t n e] [hI : IntV K.C e .u8] [hR : RowV K.C e false] [hS : SizeV K.C e 1] (he : ti.eq = true) (hx : evL l a = some (.agg (xs.map byV))) (hy : evL l b = some (.agg (ys.map byV))) (h1 : xs.length = n) (h2 : ys.length = n) : MVO K hp0 l L (.binOp .eql t a b t') (.b (decide (xs = ys))) :=
 mv_eql hx hy rfl fun hp => by
  simp only [veqOp, ht.h, Option.bind_some, he]
  exact veq_by (d := 28) h1 h2
theorem m_neqA {e : TypeId} {n : Nat} {ti : TI} {xs ys : List UInt8} [ht : TiV K.C t ti] [hA : ArrV K.C t n e] [hI : IntV K.C e .u8] [hR : RowV K.C e false] [hS : SizeV K.C e 1] (he : ti.eq = true) (hx : evL l a = some (.agg (xs.map byV))) (hy : evL l b = some (.agg (ys.map byV))) (h1 : xs.length = n) (h2 : ys.length = n) : MVO K hp0 l L (.binOp .neq t a b t') (.b (!decide (xs = ys))) :=
 mv_neq hx hy rfl fun hp => by
  simp only [veqOp, ht.h, Option.bind_some, he]
  exact veq_by (d := 28) h1 h2
theorem m_neqb {ti : TI} {x y : Bool} [ht : TiV K.C t ti] (hd : ti.d = .bool) (hx : evL l a = some (.b x)) (hy : evL l b = some (.b y)) : MVO K hp0 l L (.binOp .neq t a b t') (.b (!(x == y))) :=
 mv_neq hx hy rfl fun hp => by simp only [veqOp, veq, ht.h, Option.bind_some, hd]
end
section
variable {K : Kx} {nt : Nat} {hp0 : Bs} {hp : Hp} {l : VL} {L L0 : HV} {Q : WQ} {a b : Operand} {t t' : TypeId}
theorem ev_heap {op : Op} {tch : List Nat} {k k' : VR → HV → Prop} (h : EV K hp0 l L op tch k') (hk : ∀ r L', k' r L' → ∃ L'', (∀ hp, SV hp0 hp L' → SV hp0 hp L'') ∧ k r L'') : EV K hp0 l L op tch k := by
 unfold EV at h ⊢
 intro fr hp hf hs
 obtain ⟨r, hp', L', h1, h2, h3, h4, h5⟩ := h fr hp hf hs
 obtain ⟨L'', h6, h7⟩ := hk r L' h5
 exact ⟨r, hp', L'', h1, h6 _ h2, h3, h4, h7⟩
theorem ev_tch {op : Op} {b i : Nat} {o : VO} {k : VR → HV → Prop} [hL : AtV b L o i] (h : EV K hp0 l L op [] k) : EV K hp0 l L op [b] k := by
 unfold EV at h ⊢
 intro fr hp hf hs
 obtain ⟨r, hp', L', h1, h2, h3, ⟨h4, h5⟩, h6⟩ := h fr hp hf hs
 exact ⟨r, hp', L', h1, h2, h3, ⟨fun x hx => by simp only [List.mem_singleton] at hx; subst hx; exact (hs.has i _ _ hL.h).2.1, fun x h h' => (h5 x h h').imp_right fun h => by simp at h⟩, h6⟩
theorem set_perm {α : Type} {y : α} : ∀ (L : List α) (i : Nat), i < L.length → (L.set i y).Perm (y :: L.eraseIdx i)
 | x :: r, 0, _ => List.Perm.refl _
 | x :: r, i + 1, h => by
  simp only [List.set_cons_succ, List.eraseIdx_cons_succ]
  exact ((set_perm r i (by simpa using h)).cons x).trans (List.Perm.swap y x _)
theorem e_lit {tS tX e eX : TypeId} {s x : Operand} {A : Option (Nat × Nat)} {b0 n c : Nat} {op' : Bool} {new : List V} {k : VR → HV → Prop} [hS : SliceV K.C tS e] [hz : SizeV K.C e 1] [hG : GrowV K.C e] [hX : SliceV K.C tX eX] (hs : evL l s = some (.sl (some (b0, 0)) 0 0 false)) (hx : evL l x = some (.sl A n c op')) (hr : RZ hp0 ((some b0, cellsO [] e) :: L) A new) (hnl : new.length = n) (h8 : ∃ te, tiV K.C e = some te ∧ te.bytes = 1) (hl : n ≤ 150000000000000)
  (hk : ∀ b op oo, (op = true → oo = some 1) → k (.v (.sl (some (b, 0)) n n op)) ((some b, .cells new e oo false) :: L)) : EV K hp0 l ((some b0, cellsO [] e) :: L) (.call { callee := .builtin .append, args := #[s, x], argTypes := #[tS, tX] }) [] k := by
 by_cases h0 : n = 0
 ·subst h0
  obtain rfl := List.length_eq_zero_iff.1 hnl
  obtain ⟨ti, h3, h4⟩ := hS.h
  obtain ⟨te, h5, h6⟩ := hz.h
  obtain ⟨tx, h7, h8⟩ := hX.h
  haveI : TiV K.C tS ti := ⟨h3⟩
  haveI : TiV K.C e te := ⟨h5⟩
  haveI : TiV K.C tX tx := ⟨h7⟩
  exact ev_appN hs hx h4 (src_sl h8 hr (by simp) (by omega)) (Nat.le_refl 0) (hk b0 false none (fun h => by simp at h))
 ·refine ev_heap (k' := fun r L' => ∃ b, r = .v (.sl (some (b, 0)) n n true) ∧ L' = (some b, .cells new e (some 1) false) :: (some b0, cellsO [] e) :: L) (e_appGb (old := []) hs hx rz_nil rfl hr hnl (by omega) h8 (by omega) fun b => ⟨b, by rw [Nat.zero_add], rfl⟩) ?_
  rintro r L' ⟨b, rfl, rfl⟩
  exact ⟨_, fun hp h => h.sub ((List.sublist_cons_self _ _).cons_cons _), hk b true (some 1) (fun _ => rfl)⟩
theorem e_appU {tS tX e eX : TypeId} {s x : Operand} {A : Option (Nat × Nat)} {b m n c i : Nat} {op op' : Bool} {oo : Option Nat} {old new : List V} {k : VR → HV → Prop} [hS : SliceV K.C tS e] [hz : SizeV K.C e 1] [hG : GrowV K.C e] [hX : SliceV K.C tX eX] (hs : evL l s = some (.sl (some (b, 0)) m m op)) (hx : evL l x = some (.sl A n c op')) [hL : AtV b L (.cells old e oo false) i] (hoo : op = true → oo = some 1) (hol : old.length = m) (hr : RZ hp0 L A new) (hnl : new.length = n) (hn : 0 < n) (h8 : ∃ te, tiV K.C e = some te ∧ te.bytes = 1) (hl : m + n ≤ 150000000000000)
  (hk : ∀ b', k (.v (.sl (some (b', 0)) (m + n) (m + n) true)) (L.set i (some b', .cells (old ++ new) e (some 1) false))) : EV K hp0 l L (.call { callee := .builtin .append, args := #[s, x], argTypes := #[tS, tX] }) [b] k := by
 cases op with
 | true =>
  obtain rfl := hoo rfl
  exact e_appOb hs hx hol hr hnl hn h8 hl hk
 | false =>
  refine ev_tch (ev_heap (k' := fun r L' => ∃ b', r = .v (.sl (some (b', 0)) (m + n) (m + n) true) ∧ L' = (some b', .cells (old ++ new) e (some 1) false) :: L) (e_appGb (old := old) hs hx (rz_loc (k := m) (by rw [List.drop_zero]; exact List.take_of_length_le (Nat.le_of_eq hol))) hol hr hnl (by omega) h8 hl fun b' => ⟨b', rfl, rfl⟩) ?_)
  rintro r L' ⟨b', rfl, rfl⟩
  have hi := (List.getElem?_eq_some_iff.1 hL.h).1
  exact ⟨_, fun hp h => (h.sub (List.Sublist.cons_cons _ (List.eraseIdx_sublist ..))).perm (set_perm L i hi).symm, hk b'⟩
theorem m_eqs {x y : List UInt8} (hx : evL l a = some (.s x)) (hy : evL l b = some (.s y)) : MVO K hp0 l L (.binOp .eql t a b t') (.b (x == y)) := mv_str hx hy (by
 simp only [vstr, byEq_iff])
end
structure Seen (X : HV) (A : Option (Nat × Nat)) (xs : List UInt8) : Prop where
 h : ∀ {B : Bs} {hp : Hp} {L : HV}, SV B hp L → (∀ p ∈ X, p ∈ L) → RB ⟨hp, []⟩ A (xs.map byV)
theorem Seen.nil : Seen [] none [] := ⟨fun _ _ => RB.nil⟩
theorem Seen.own {b : Nat} {xs : List UInt8} {T : TypeId} {oo : Option Nat} {mk : Bool} : Seen [(some b, .cells (xs.map byV) T oo mk)] (some (b, 0)) xs := ⟨fun hs hx => by
 obtain ⟨i, hi⟩ := List.getElem?_of_mem (hx _ (List.mem_singleton.2 rfl))
 exact rb_own0 hs hi (by rw [List.drop_zero]; exact List.take_of_length_le (Nat.le_refl _))⟩
/- Js1: nested lists of bytes, and their one form; records and their bytes. By this project. -/
inductive It where
 | str (bs : List UInt8)
 | list (l : List It)
def shortB (n : Nat) : List UInt8 := if h : n = 0 then [] else shortB (n / 256) ++ [UInt8.ofNat n]
theorem shortB_zero : shortB 0 = [] := by rw [shortB]; rfl
theorem shortB_pos {n : Nat} (h : 0 < n) : shortB n = shortB (n / 256) ++ [UInt8.ofNat n] := by rw [shortB, dif_neg (by omega)]
theorem shortB_len : ∀ (k n : Nat), n < 256 ^ k → (shortB n).length ≤ k
  | 0, n, h => by obtain rfl : n = 0 := by simpa using h
                  rw [shortB_zero]; exact Nat.le_refl 0
  | k + 1, n, h => by
    rcases Nat.eq_zero_or_pos n with rfl | h0
    · rw [shortB_zero]; exact Nat.zero_le _
    · have := shortB_len k (n / 256) (by rw [Nat.div_lt_iff_lt_mul (by decide), ← Nat.pow_succ]; exact h)
      rw [shortB_pos h0, List.length_append]
      simp only [List.length_cons, List.length_nil]
      omega
def headB (base : UInt8) (n : Nat) : List UInt8 := if n < 56 then [base + UInt8.ofNat n] else (base + 55 + UInt8.ofNat (shortB n).length) :: shortB n
def strB : List UInt8 → List UInt8
 | [b] => if b.toNat < 128 then [b] else headB 128 1 ++ [b]
 | bs => headB 128 bs.length ++ bs
mutual
def enc : It → List UInt8
 | .str bs => strB bs
 | .list l => headB 192 (encs l).length ++ encs l
def encs : List It → List UInt8
 | [] => []
 | t :: r => enc t ++ encs r
end
mutual
def depth : It → Nat
 | .str _ => 0
 | .list l => depths l + 1
def depths : List It → Nat
 | [] => 0
 | t :: r => max (depth t) (depths r)
end
theorem headB_pos (base : UInt8) (n : Nat) : 0 < (headB base n).length := by
 unfold headB
 split <;> simp
theorem strB_pos (bs : List UInt8) : 0 < (strB bs).length := by
 unfold strB
 split
 ·split
  ·simp
  ·simp
 ·have := headB_pos 128 bs.length
  rw [List.length_append]; omega
theorem enc_pos (t : It) : 0 < (enc t).length := by
 cases t with
 | str bs => rw [enc]; exact strB_pos bs
 | list l => rw [enc, List.length_append]; have := headB_pos 192 (encs l).length; omega
theorem encs_app : ∀ (l r : List It), encs (l ++ r) = encs l ++ encs r
 | [], r => by rw [List.nil_append, encs, List.nil_append]
 | t :: l, r => by rw [List.cons_append, encs, encs, encs_app l r, List.append_assoc]
theorem depth_mem : ∀ {l : List It} {t : It}, t ∈ l → depth t ≤ depths l
 | x :: r, t, h => by
  rw [depths]
  rcases List.mem_cons.1 h with rfl | h
  ·omega
  ·have := depth_mem h; omega
theorem enc_mem : ∀ {l : List It} {t : It}, t ∈ l → (enc t).length ≤ (encs l).length
 | x :: r, t, h => by
  rw [encs, List.length_append]
  rcases List.mem_cons.1 h with rfl | h
  ·omega
  ·have := enc_mem h; omega
mutual
def ItR (B : Bs) : It → List V → Prop
 | .str bs, v => ∃ A c o, v = [.b false, .sl A bs.length c o, .sl none 0 0 false] ∧ RB B A (bs.map byV)
 | .list l, v => ∃ A c o vs, v = [.b true, .sl none 0 0 false, .sl A l.length c o] ∧ RB B A vs.flatten ∧ ItRs B l vs
def ItRs (B : Bs) : List It → List (List V) → Prop
 | [], vs => vs = []
 | t :: r, vs => ∃ v ws, vs = v :: ws ∧ ItR B t v ∧ ItRs B r ws
end
theorem itR_len {B : Bs} {t : It} {v : List V} (h : ItR B t v) : v.length = 3 := by
 cases t with
 | str bs => obtain ⟨A, c, o, rfl, _⟩ := h; rfl
 | list l => obtain ⟨A, c, o, vs, rfl, _⟩ := h; rfl
theorem itRs_at {B : Bs} : ∀ {l : List It} {vs : List (List V)} {i : Nat} {t : It}, ItRs B l vs → l[i]? = some t → ∃ v, vs[i]? = some v ∧ ItR B t v
 | [], _, _, _, _, hi => by simp at hi
 | x :: r, vs, 0, t, h, hi => by
  rw [ItRs] at h
  obtain ⟨v, ws, rfl, h1, _⟩ := h
  simp only [List.getElem?_cons_zero, Option.some.injEq] at hi
  subst hi
  exact ⟨v, rfl, h1⟩
 | x :: r, vs, i + 1, t, h, hi => by
  rw [ItRs] at h
  obtain ⟨v, ws, rfl, _, h2⟩ := h
  have := itRs_at (i := i) (t := t) h2 (by simpa using hi)
  simpa using this
theorem flat_row {α : Type} {k : Nat} : ∀ {vs : List (List α)} {i : Nat} {v : List α}, (∀ x ∈ vs, x.length = k) → vs[i]? = some v → (vs.flatten.drop (i * k)).take k = v
 | [], _, _, _, h => by simp at h
 | x :: r, 0, v, hk, h => by
  simp only [List.getElem?_cons_zero, Option.some.injEq] at h
  subst h
  rw [Nat.zero_mul, List.drop_zero, List.flatten_cons, List.take_append_of_le_length (by rw [hk x (by simp)]; exact Nat.le_refl _), List.take_of_length_le (by rw [hk x (by simp)]; exact Nat.le_refl _)]
 | x :: r, i + 1, v, hk, h => by
  have hx := hk x (by simp)
  rw [List.flatten_cons, show (i + 1) * k = x.length + i * k by rw [hx, Nat.succ_mul]; omega, ← List.drop_drop, List.drop_append_of_le_length (Nat.le_refl _), List.drop_of_length_le (Nat.le_refl _), List.nil_append]
  exact flat_row (fun y hy => hk y (by simp [hy])) (by simpa using h)
theorem itRs_rows {B : Bs} : ∀ {l : List It} {vs : List (List V)}, ItRs B l vs → ∀ x ∈ vs, x.length = 3
 | [], vs, h, x, hx => by rw [ItRs] at h; subst h; simp at hx
 | t :: r, vs, h, x, hx => by
  rw [ItRs] at h
  obtain ⟨v, ws, rfl, h1, h2⟩ := h
  rcases List.mem_cons.1 hx with rfl | hx
  ·exact itR_len h1
  ·exact itRs_rows h2 x hx
mutual
theorem itR_mono {B B' : Bs} (hm : ∀ {A : Option (Nat × Nat)} {cs : List V}, RB B A cs → RB B' A cs) : ∀ (t : It) (v : List V), ItR B t v → ItR B' t v
 | .str bs, v, h => by
  rw [ItR] at h ⊢
  obtain ⟨A, c, o, h1, h2⟩ := h
  exact ⟨A, c, o, h1, hm h2⟩
 | .list l, v, h => by
  rw [ItR] at h ⊢
  obtain ⟨A, c, o, vs, h1, h2, h3⟩ := h
  exact ⟨A, c, o, vs, h1, hm h2, itRs_mono hm l vs h3⟩
theorem itRs_mono {B B' : Bs} (hm : ∀ {A : Option (Nat × Nat)} {cs : List V}, RB B A cs → RB B' A cs) : ∀ (l : List It) (vs : List (List V)), ItRs B l vs → ItRs B' l vs
 | [], vs, h => by rw [ItRs] at h ⊢; exact h
 | t :: r, vs, h => by
  rw [ItRs] at h ⊢
  obtain ⟨v, ws, h0, h1, h2⟩ := h
  exact ⟨v, ws, h0, itR_mono hm t v h1, itRs_mono hm r ws h2⟩
end
theorem ItR.give0 {B : Bs} {hp : Hp} {L : HV} {t : It} {v : List V} (h : ItR B t v) (hs : SV B hp L) : ItR ⟨hp, []⟩ t v := itR_mono (fun h => h.give0 hs) t v h
theorem ItR.give {B : Bs} {hp : Hp} {Lt Lr : HV} {t : It} {v : List V} (h : ItR B t v) (hs : SV B hp (Lt ++ Lr)) : ItR ⟨hp, hnds Lt⟩ t v := itR_mono (fun h => h.give hs) t v h
/- Js2: rows of bytes that are built by appending; numbers' bytes, heads. By this project. -/
inductive RowU (e : TypeId) : List UInt8 → V → HV → Prop
 | nil : RowU e [] (.sl none 0 0 false) []
 | own {xs : List UInt8} {b : Nat} {op : Bool} {oo : Option Nat} (h : op = true → oo = some 1) : RowU e xs (.sl (some (b, 0)) xs.length xs.length op) [(some b, .cells (xs.map byV) e oo false)]
theorem RowU.lit {e : TypeId} {xs : List UInt8} {b n : Nat} {C : List V} (hC : xs.map byV = C) (hn : xs.length = n) : RowU e xs (.sl (some (b, 0)) n n false) [(some b, cellsO C e)] := by
 subst hC hn
 exact .own (fun h => by simp at h)
theorem RowU.lit1 {e : TypeId} {y : UInt8} {b : Nat} : RowU e [y] (.sl (some (b, 0)) 1 1 false) [(some b, cellsO [byV y] e)] := RowU.lit rfl rfl
theorem RowU.sl {e : TypeId} {xs : List UInt8} {u : V} {N : HV} (h : RowU e xs u N) : ∃ A op, u = .sl A xs.length xs.length op := by
 cases h with
 | nil => exact ⟨_, _, rfl⟩
 | own h => exact ⟨_, _, rfl⟩
instance (priority := high) {x : Option Nat × VO} {L : HV} : OutM (x :: L) [x] L := ⟨List.Perm.refl _⟩
instance (priority := high) {L : HV} : OutM L [] L := ⟨List.Perm.refl _⟩
theorem outM {L : HV} (M : HV) {r : HV} [h : OutM L M r] : ∃ G, L.Perm (G ++ M) := ⟨r, h.h.trans List.perm_append_comm⟩
theorem Fn.dropM {K : Kx} {f : Nat} {args : List V} {hp : Hp} {T : List Nat} {R : VR → HV → Prop} (h : Fn K f args hp T fun r N => ∃ N', (∃ G, N.Perm (G ++ N')) ∧ R r N') : Fn K f args hp T R := by
 unfold Fn at *
 obtain ⟨r, hp', h1, N, h2, h3, N', ⟨G, hG⟩, h4⟩ := h
 exact ⟨r, hp', h1, N', (h2.perm hG).tail, h3, h4⟩
theorem RowU.src {e : TypeId} {xs : List UInt8} {A : Option (Nat × Nat)} {n c : Nat} {op : Bool} {M L r : HV} {B : Bs} (h : RowU e xs (.sl A n c op) M) [k : OutM L M r] : RZ B L A (xs.map byV) := by
 cases h with
 | nil => exact rz_nil
 | own h => exact fun hp hs => (rz_loc (L := (some _, .cells (xs.map byV) e _ false) :: r) (k := xs.length) (by rw [List.drop_zero]; exact List.take_of_length_le (by simp))) hp (hs.perm k.h)
theorem RowU.rb {e : TypeId} {xs : List UInt8} {A : Option (Nat × Nat)} {n c : Nat} {op : Bool} {M Lt Lr r : HV} {B : Bs} {hp : Hp} (h : RowU e xs (.sl A n c op) M) [k : OutM Lr M r] (hs : SV B hp (Lt ++ Lr)) : RB ⟨hp, hnds Lt⟩ A (xs.map byV) := by
 cases h with
 | nil => exact RB.nil
 | own h => exact rb_own (hs.perm (k.h.append_left Lt)) (i := 0) rfl (by rw [List.drop_zero]; exact List.take_of_length_le (by simp))
theorem RowU.rb0 {e : TypeId} {xs : List UInt8} {A : Option (Nat × Nat)} {n c : Nat} {op : Bool} {M L r : HV} {B : Bs} {hp : Hp} (h : RowU e xs (.sl A n c op) M) [k : OutM L M r] (hs : SV B hp L) : RB ⟨hp, []⟩ A (xs.map byV) := RowU.rb (Lt := []) h hs
theorem RowU.seen {e : TypeId} {xs : List UInt8} {A : Option (Nat × Nat)} {n c : Nat} {op : Bool} {M : HV} (h : RowU e xs (.sl A n c op) M) : Seen M A xs := by
 cases h with
 | nil => exact Seen.nil
 | own h => exact Seen.own
theorem perm_set {α : Type} {L r : List α} {x y : α} {i : Nat} (h : L.Perm (x :: r)) (hi : L[i]? = some x) : (L.set i y).Perm (y :: r) := by
 obtain ⟨h1, h2⟩ := List.getElem?_eq_some_iff.1 hi
 refine (set_perm L i h1).trans (List.Perm.cons y ?_)
 have e : (L.set i x) = L := by rw [← h2]; exact List.set_getElem_self h1
 have k := set_perm (y := x) L i h1
 rw [e] at k
 exact List.Perm.cons_inv (k.symm.trans h)
section
variable {K : Kx} {hp0 : Bs} {l : VL} {L : HV}
theorem e_appW {tS tX e eX : TypeId} {s x : Operand} {A : Option (Nat × Nat)} {n c : Nat} {op' : Bool} {xs ys : List UInt8} {u : V} {N0 L1 : HV} {k : VR → HV → Prop} [hS : SliceV K.C tS e] [hz : SizeV K.C e 1] [hG : GrowV K.C e] [hX : SliceV K.C tX eX] (hu : RowU e xs u N0) (hs : evL l s = some u) (hx : evL l x = some (.sl A n c op')) [hL : OutM L N0 L1] (hr : RZ hp0 L A (ys.map byV)) (hn : ys.length = n) (h8 : ∃ te, tiV K.C e = some te ∧ te.bytes = 1) (hl : xs.length + n ≤ 150000000000000)
  (hk : ∀ A' m' op' N', RowU e (xs ++ ys) (.sl A' m' m' op') N' → m' = xs.length + n → k (.v (.sl A' m' m' op')) (N' ++ L1)) : EV K hp0 l L (.call { callee := .builtin .append, args := #[s, x], argTypes := #[tS, tX] }) (hnds N0) k := by
 have hyl : (ys.map byV).length = n := by rw [List.length_map, hn]
 by_cases h0 : n = 0
 ·subst h0
  obtain rfl := List.length_eq_zero_iff.1 hn
  obtain ⟨ti, h3, h4⟩ := hS.h
  obtain ⟨te, h5, h6⟩ := hz.h
  obtain ⟨tx, h7, h8⟩ := hX.h
  haveI : TiV K.C tS ti := ⟨h3⟩
  haveI : TiV K.C e te := ⟨h5⟩
  haveI : TiV K.C tX tx := ⟨h7⟩
  obtain ⟨A0, op0, rfl⟩ := hu.sl
  have hk2 : k (.v (.sl A0 xs.length xs.length op0)) (N0 ++ L1) := hk _ _ _ _ (by rw [List.append_nil]; exact hu) rfl
  have base : EV K hp0 l L (.call { callee := .builtin .append, args := #[s, x], argTypes := #[tS, tX] }) [] k :=
   ev_heap (k' := fun r L' => r = .v (.sl A0 xs.length xs.length op0) ∧ L' = L) (ev_appN hs hx h4 (src_sl h8 hr (by simp) (by omega)) (Nat.le_refl _) ⟨rfl, rfl⟩) (by
    rintro r L' ⟨rfl, rfl⟩
    exact ⟨_, fun hp h => h.perm hL.h, hk2⟩)
  cases hu with
  | nil => exact base
  | own h =>
   obtain ⟨i, hi⟩ := List.getElem?_of_mem (hL.h.mem_iff.2 (List.mem_append_left _ (List.mem_singleton.2 rfl)))
   haveI : AtV _ L _ i := ⟨hi⟩
   exact ev_tch base
 ·cases hu with
  | nil =>
   refine ev_heap (k' := fun r L' => ∃ b, r = .v (.sl (some (b, 0)) n n true) ∧ L' = (some b, .cells (ys.map byV) e (some 1) false) :: L) (e_app0b hs hx hr hyl (by omega) h8 (by simp at hl; omega) fun b => ⟨b, rfl, rfl⟩) ?_
   rintro r L' ⟨b, rfl, rfl⟩
   refine ⟨(some b, .cells (ys.map byV) e (some 1) false) :: L1, fun hp h => h.perm (hL.h.cons _), ?_⟩
   subst hn
   exact hk _ _ _ [_] (RowU.own (xs := ys) (fun _ => rfl)) (by simp)
  | @own _ b op oo h =>
   obtain ⟨i, hi⟩ := List.getElem?_of_mem (hL.h.mem_iff.2 (List.mem_append_left _ (List.mem_singleton.2 rfl)))
   haveI : AtV b L (.cells (xs.map byV) e oo false) i := ⟨hi⟩
   refine ev_heap (k' := fun r L' => ∃ b', r = .v (.sl (some (b', 0)) (xs.length + n) (xs.length + n) true) ∧ L' = L.set i (some b', .cells (xs.map byV ++ ys.map byV) e (some 1) false)) (e_appU (old := xs.map byV) hs hx h (by simp) hr hyl (by omega) h8 hl fun b' => ⟨b', rfl, rfl⟩) ?_
   rintro r L' ⟨b', rfl, rfl⟩
   refine ⟨(some b', .cells (xs.map byV ++ ys.map byV) e (some 1) false) :: L1, fun hp h' => h'.perm (perm_set hL.h hi), ?_⟩
   have e1 : (xs ++ ys).length = xs.length + n := by rw [List.length_append, hn]
   rw [← e1, ← List.map_append]
   exact hk _ _ _ [_] (RowU.own (xs := xs ++ ys) (fun _ => rfl)) e1
end
abbrev RowK := RowU 5
/- Ds1: SHA-256 over a list of bytes, in plain Lean: the words behind so many blocks; a state on its way. By this project. -/
def firstW : List Nat := [1779033703, 3144134277, 1013904242, 2773480762, 1359893119, 2600822924, 528734635, 1541459225]
def absN (m : List UInt8) : Nat → List Nat
 | 0 => firstW
 | n + 1 => blk (absN m n) ((m.drop (64 * n)).take 64)
theorem absN_len (m : List UInt8) : ∀ n, (absN m n).length = 8
 | 0 => rfl
 | n + 1 => blk_len (absN_len m n) _
def restOk (rest m : List UInt8) : Prop := rest.length = 64 ∧ rest.take (m.length % 64) = m.drop (64 * (m.length / 64))
def stC (ws : List Nat) (rest : List UInt8) (held taken : Nat) : List V := ws.map wV ++ (rest.map byV ++ [.i .i64 (held : Int), .i .i64 (taken : Int)])
def StT (cs : List V) (m : List UInt8) (taken : Nat) : Prop := ∃ rest, restOk rest m ∧ cs = stC (absN m (m.length / 64)) rest (m.length % 64) taken
theorem stC_len {ws : List Nat} {rest : List UInt8} {h t : Nat} (hw : ws.length = 8) (hr : rest.length = 64) : (stC ws rest h t).length = 74 := by simp [stC, hw, hr]
theorem StT.len {cs : List V} {m : List UInt8} {t : Nat} (h : StT cs m t) : cs.length = 74 := by
 obtain ⟨rest, hr, rfl⟩ := h
 exact stC_len (absN_len _ _) hr.1
theorem stC_held {ws : List Nat} {rest : List UInt8} {h t : Nat} (hw : ws.length = 8) (hr : rest.length = 64) : (stC ws rest h t)[72]? = some (.i .i64 (h : Int)) := by
 unfold stC
 rw [List.getElem?_append_right (by simp [hw]), List.getElem?_append_right (by simp [hw, hr])]
 simp [hw, hr]
theorem stC_taken {ws : List Nat} {rest : List UInt8} {h t : Nat} (hw : ws.length = 8) (hr : rest.length = 64) : (stC ws rest h t)[73]? = some (.i .i64 (t : Int)) := by
 unfold stC
 rw [List.getElem?_append_right (by simp [hw]), List.getElem?_append_right (by simp [hw, hr])]
 simp [hw, hr]
end Go.Proofs.Ytabpegdalmagpaa
/- The tables of the machine for this seat, and that they are the program's. Written by wip/bin/vmt.py. -/
set_option maxRecDepth 100000
namespace Go.Proofs.Ytabpegdalmagpaa
noncomputable def rl (l : List (Nat × V)) : List V := List.rec [] (fun e _ ih => Nat.rec ih (fun _ jh => e.2 :: jh) e.1) l
noncomputable def vt3 : TI := ⟨.int .i64, 1, 8, (some (.i .i64 (.ofNat 0))), true⟩
theorem vt3_ok : TIok Try.prog 3 vt3 := tiok_of (e := true) (by kernel_rfl)
noncomputable def vt4 : TI := ⟨.bool, 1, 1, (some (.b false)), true⟩
theorem vt4_ok : TIok Try.prog 4 vt4 := tiok_of (e := true) (by kernel_rfl)
noncomputable def vt5 : TI := ⟨.int .u8, 1, 1, (some (.i .u8 (.ofNat 0))), true⟩
theorem vt5_ok : TIok Try.prog 5 vt5 := tiok_of (e := true) (by kernel_rfl)
noncomputable def vt9 : TI := ⟨.str, 1, 16, (some (.s [])), true⟩
theorem vt9_ok : TIok Try.prog 9 vt9 := tiok_of (e := true) (by kernel_rfl)
noncomputable def vt20 : TI := ⟨.ifc, 1, 16, (some (.ni)), true⟩
theorem vt20_ok : TIok Try.prog 20 vt20 := tiok_of (e := true) (by kernel_rfl)
noncomputable def vt22 : TI := ⟨.sl 5, 1, 24, (some (.sl none 0 0 false)), false⟩
theorem vt22_ok : TIok Try.prog 22 vt22 := tiok_of (e := false) (by kernel_rfl)
noncomputable def vt24 : TI := ⟨.arr 32 5, 32, 32, (some (.agg (rl [(32, .i .u8 (.ofNat 0))]))), true⟩
theorem vt24_ok : TIok Try.prog 24 vt24 := tiok_of (e := true) (by kernel_rfl)
noncomputable def vt26 : TI := ⟨.st [(0, 3), (1, 24), (33, 22)], 34, 64, (some (.agg (rl [(1, .i .i64 (.ofNat 0)), (32, .i .u8 (.ofNat 0)), (1, .sl none 0 0 false)]))), false⟩
theorem vt26_ok : TIok Try.prog 26 vt26 := tiok_of (e := false) (by kernel_rfl)
noncomputable def vt27 : TI := ⟨.arr 16 26, 544, 1024, (some (.agg (rl [(1, .i .i64 (.ofNat 0)), (32, .i .u8 (.ofNat 0)), (1, .sl none 0 0 false), (1, .i .i64 (.ofNat 0)), (32, .i .u8 (.ofNat 0)), (1, .sl none 0 0 false), (1, .i .i64 (.ofNat 0)), (32, .i .u8 (.ofNat 0)), (1, .sl none 0 0 false), (1, .i .i64 (.ofNat 0)), (32, .i .u8 (.ofNat 0)), (1, .sl none 0 0 false), (1, .i .i64 (.ofNat 0)), (32, .i .u8 (.ofNat 0)), (1, .sl none 0 0 false), (1, .i .i64 (.ofNat 0)), (32, .i .u8 (.ofNat 0)), (1, .sl none 0 0 false), (1, .i .i64 (.ofNat 0)), (32, .i .u8 (.ofNat 0)), (1, .sl none 0 0 false), (1, .i .i64 (.ofNat 0)), (32, .i .u8 (.ofNat 0)), (1, .sl none 0 0 false), (1, .i .i64 (.ofNat 0)), (32, .i .u8 (.ofNat 0)), (1, .sl none 0 0 false), (1, .i .i64 (.ofNat 0)), (32, .i .u8 (.ofNat 0)), (1, .sl none 0 0 false), (1, .i .i64 (.ofNat 0)), (32, .i .u8 (.ofNat 0)), (1, .sl none 0 0 false), (1, .i .i64 (.ofNat 0)), (32, .i .u8 (.ofNat 0)), (1, .sl none 0 0 false), (1, .i .i64 (.ofNat 0)), (32, .i .u8 (.ofNat 0)), (1, .sl none 0 0 false), (1, .i .i64 (.ofNat 0)), (32, .i .u8 (.ofNat 0)), (1, .sl none 0 0 false), (1, .i .i64 (.ofNat 0)), (32, .i .u8 (.ofNat 0)), (1, .sl none 0 0 false), (1, .i .i64 (.ofNat 0)), (32, .i .u8 (.ofNat 0)), (1, .sl none 0 0 false)]))), false⟩
theorem vt27_ok : TIok Try.prog 27 vt27 := tiok_of (e := false) (by kernel_rfl)
noncomputable def vt29 : TI := ⟨.st [(0, 3), (1, 22), (2, 22), (3, 4), (4, 26), (38, 27)], 582, 1152, (some (.agg (rl [(1, .i .i64 (.ofNat 0)), (2, .sl none 0 0 false), (1, .b false), (1, .i .i64 (.ofNat 0)), (32, .i .u8 (.ofNat 0)), (1, .sl none 0 0 false), (1, .i .i64 (.ofNat 0)), (32, .i .u8 (.ofNat 0)), (1, .sl none 0 0 false), (1, .i .i64 (.ofNat 0)), (32, .i .u8 (.ofNat 0)), (1, .sl none 0 0 false), (1, .i .i64 (.ofNat 0)), (32, .i .u8 (.ofNat 0)), (1, .sl none 0 0 false), (1, .i .i64 (.ofNat 0)), (32, .i .u8 (.ofNat 0)), (1, .sl none 0 0 false), (1, .i .i64 (.ofNat 0)), (32, .i .u8 (.ofNat 0)), (1, .sl none 0 0 false), (1, .i .i64 (.ofNat 0)), (32, .i .u8 (.ofNat 0)), (1, .sl none 0 0 false), (1, .i .i64 (.ofNat 0)), (32, .i .u8 (.ofNat 0)), (1, .sl none 0 0 false), (1, .i .i64 (.ofNat 0)), (32, .i .u8 (.ofNat 0)), (1, .sl none 0 0 false), (1, .i .i64 (.ofNat 0)), (32, .i .u8 (.ofNat 0)), (1, .sl none 0 0 false), (1, .i .i64 (.ofNat 0)), (32, .i .u8 (.ofNat 0)), (1, .sl none 0 0 false), (1, .i .i64 (.ofNat 0)), (32, .i .u8 (.ofNat 0)), (1, .sl none 0 0 false), (1, .i .i64 (.ofNat 0)), (32, .i .u8 (.ofNat 0)), (1, .sl none 0 0 false), (1, .i .i64 (.ofNat 0)), (32, .i .u8 (.ofNat 0)), (1, .sl none 0 0 false), (1, .i .i64 (.ofNat 0)), (32, .i .u8 (.ofNat 0)), (1, .sl none 0 0 false), (1, .i .i64 (.ofNat 0)), (32, .i .u8 (.ofNat 0)), (1, .sl none 0 0 false), (1, .i .i64 (.ofNat 0)), (32, .i .u8 (.ofNat 0)), (1, .sl none 0 0 false)]))), false⟩
theorem vt29_ok : TIok Try.prog 29 vt29 := tiok_of (e := false) (by kernel_rfl)
noncomputable def vt30 : TI := ⟨.int .i64, 1, 8, (some (.i .i64 (.ofNat 0))), true⟩
theorem vt30_ok : TIok Try.prog 30 vt30 := tiok_of (e := true) (by kernel_rfl)
noncomputable def vt43 : TI := ⟨.sl 22, 1, 24, (some (.sl none 0 0 false)), false⟩
theorem vt43_ok : TIok Try.prog 43 vt43 := tiok_of (e := false) (by kernel_rfl)
noncomputable def vt49 : TI := ⟨.sl 24, 1, 24, (some (.sl none 0 0 false)), false⟩
theorem vt49_ok : TIok Try.prog 49 vt49 := tiok_of (e := false) (by kernel_rfl)
noncomputable def vt60 : TI := ⟨.sl 63, 1, 24, (some (.sl none 0 0 false)), false⟩
theorem vt60_ok : TIok Try.prog 60 vt60 := tiok_of (e := false) (by kernel_rfl)
noncomputable def vt63 : TI := ⟨.st [(0, 4), (1, 22), (2, 60)], 3, 56, (some (.agg [.b false, .sl none 0 0 false, .sl none 0 0 false])), false⟩
theorem vt63_ok : TIok Try.prog 63 vt63 := tiok_of (e := false) (by kernel_rfl)
noncomputable def vt87 : TI := ⟨.st [(0, 3), (1, 30)], 2, 16, (some (.agg [.i .i64 (.ofNat 0), .i .i64 (.ofNat 0)])), true⟩
theorem vt87_ok : TIok Try.prog 87 vt87 := tiok_of (e := true) (by kernel_rfl)
noncomputable def vt106 : TI := ⟨.st [(0, 22), (1, 3)], 2, 32, (some (.agg [.sl none 0 0 false, .i .i64 (.ofNat 0)])), false⟩
theorem vt106_ok : TIok Try.prog 106 vt106 := tiok_of (e := false) (by kernel_rfl)
noncomputable def vt111 : TI := ⟨.int .u64, 1, 8, (some (.i .u64 (.ofNat 0))), true⟩
theorem vt111_ok : TIok Try.prog 111 vt111 := tiok_of (e := true) (by kernel_rfl)
theorem vf7_ok : FnOk Try.prog 7 Try.f7 := fnok_of Try.func7 (by kernel_rfl)
theorem vf8_ok : FnOk Try.prog 8 Try.f8 := fnok_of Try.func8 (by kernel_rfl)
theorem vf9_ok : FnOk Try.prog 9 Try.f9 := fnok_of Try.func9 (by kernel_rfl)
theorem vf10_ok : FnOk Try.prog 10 Try.f10 := fnok_of Try.func10 (by kernel_rfl)
theorem vf11_ok : FnOk Try.prog 11 Try.f11 := fnok_of Try.func11 (by kernel_rfl)
theorem vf15_ok : FnOk Try.prog 15 Try.f15 := fnok_of Try.func15 (by kernel_rfl)
theorem vf17_ok : FnOk Try.prog 17 Try.f17 := fnok_of Try.func17 (by kernel_rfl)
theorem vf21_ok : FnOk Try.prog 21 Try.f21 := fnok_of Try.func21 (by kernel_rfl)
theorem vf22_ok : FnOk Try.prog 22 Try.f22 := fnok_of Try.func22 (by kernel_rfl)
theorem vf24_ok : FnOk Try.prog 24 Try.f24 := fnok_of Try.func24 (by kernel_rfl)
theorem vf25_ok : FnOk Try.prog 25 Try.f25 := fnok_of Try.func25 (by kernel_rfl)
theorem vf26_ok : FnOk Try.prog 26 Try.f26 := fnok_of Try.func26 (by kernel_rfl)
theorem vf27_ok : FnOk Try.prog 27 Try.f27 := fnok_of Try.func27 (by kernel_rfl)
theorem vf28_ok : FnOk Try.prog 28 Try.f28 := fnok_of Try.func28 (by kernel_rfl)
theorem vf29_ok : FnOk Try.prog 29 Try.f29 := fnok_of Try.func29 (by kernel_rfl)
theorem vf30_ok : FnOk Try.prog 30 Try.f30 := fnok_of Try.func30 (by kernel_rfl)
theorem vf37_ok : FnOk Try.prog 37 Try.f37 := fnok_of Try.func37 (by kernel_rfl)
theorem vf39_ok : FnOk Try.prog 39 Try.f39 := fnok_of Try.func39 (by kernel_rfl)
theorem vf40_ok : FnOk Try.prog 40 Try.f40 := fnok_of Try.func40 (by kernel_rfl)
theorem vf41_ok : FnOk Try.prog 41 Try.f41 := fnok_of Try.func41 (by kernel_rfl)
theorem vf42_ok : FnOk Try.prog 42 Try.f42 := fnok_of Try.func42 (by kernel_rfl)
theorem vf43_ok : FnOk Try.prog 43 Try.f43 := fnok_of Try.func43 (by kernel_rfl)
theorem vf44_ok : FnOk Try.prog 44 Try.f44 := fnok_of Try.func44 (by kernel_rfl)
theorem vf45_ok : FnOk Try.prog 45 Try.f45 := fnok_of Try.func45 (by kernel_rfl)
theorem vf46_ok : FnOk Try.prog 46 Try.f46 := fnok_of Try.func46 (by kernel_rfl)
theorem vf47_ok : FnOk Try.prog 47 Try.f47 := fnok_of Try.func47 (by kernel_rfl)
theorem vf48_ok : FnOk Try.prog 48 Try.f48 := fnok_of Try.func48 (by kernel_rfl)
theorem vf49_ok : FnOk Try.prog 49 Try.f49 := fnok_of Try.func49 (by kernel_rfl)
theorem vf50_ok : FnOk Try.prog 50 Try.f50 := fnok_of Try.func50 (by kernel_rfl)
theorem vf51_ok : FnOk Try.prog 51 Try.f51 := fnok_of Try.func51 (by kernel_rfl)
theorem vf52_ok : FnOk Try.prog 52 Try.f52 := fnok_of Try.func52 (by kernel_rfl)
theorem vf53_ok : FnOk Try.prog 53 Try.f53 := fnok_of Try.func53 (by kernel_rfl)
theorem vf54_ok : FnOk Try.prog 54 Try.f54 := fnok_of Try.func54 (by kernel_rfl)
theorem vf64_ok : FnOk Try.prog 64 Try.f64 := fnok_of Try.func64 (by kernel_rfl)
theorem vf65_ok : FnOk Try.prog 65 Try.f65 := fnok_of Try.func65 (by kernel_rfl)
theorem vf66_ok : FnOk Try.prog 66 Try.f66 := fnok_of Try.func66 (by kernel_rfl)
theorem vf67_ok : FnOk Try.prog 67 Try.f67 := fnok_of Try.func67 (by kernel_rfl)
theorem vf69_ok : FnOk Try.prog 69 Try.f69 := fnok_of Try.func69 (by kernel_rfl)
theorem vf70_ok : FnOk Try.prog 70 Try.f70 := fnok_of Try.func70 (by kernel_rfl)
theorem vf71_ok : FnOk Try.prog 71 Try.f71 := fnok_of Try.func71 (by kernel_rfl)
theorem vf72_ok : FnOk Try.prog 72 Try.f72 := fnok_of Try.func72 (by kernel_rfl)
noncomputable def vT : Tr TI := .nd (.nd (.nd (.nd (.nd (.nd (.nd .lf (some vt63) .lf) none .lf) none (.nd .lf none (.nd .lf (some vt111) .lf))) none (.nd .lf none (.nd (.nd .lf (some vt87) .lf) none .lf))) (some vt3) (.nd .lf none (.nd (.nd .lf (some vt43) .lf) (some vt27) .lf))) none (.nd (.nd (.nd .lf none (.nd .lf (some vt49) .lf)) (some vt9) .lf) (some vt5) (.nd .lf none (.nd .lf (some vt29) .lf)))) none (.nd (.nd (.nd .lf none (.nd .lf (some vt24) .lf)) (some vt4) (.nd (.nd .lf (some vt20) .lf) none (.nd .lf none (.nd .lf (some vt60) .lf)))) none (.nd (.nd .lf none (.nd (.nd .lf none (.nd .lf (some vt106) .lf)) (some vt26) .lf)) none (.nd (.nd .lf (some vt22) .lf) none (.nd .lf (some vt30) .lf))))
noncomputable def vF : Tr Func := .nd (.nd (.nd (.nd (.nd .lf (some Try.f15) (.nd .lf (some Try.f47) .lf)) (some Try.f7) (.nd (.nd (.nd .lf (some Try.f71) .lf) (some Try.f39) .lf) none .lf)) none (.nd (.nd (.nd (.nd .lf (some Try.f67) .lf) none .lf) none (.nd .lf (some Try.f51) .lf)) (some Try.f11) (.nd (.nd .lf (some Try.f43) .lf) (some Try.f27) .lf))) none (.nd (.nd (.nd (.nd (.nd .lf (some Try.f65) .lf) none .lf) (some Try.f17) (.nd .lf (some Try.f49) .lf)) (some Try.f9) (.nd (.nd .lf (some Try.f41) .lf) (some Try.f25) .lf)) none (.nd (.nd (.nd (.nd .lf (some Try.f69) .lf) (some Try.f37) .lf) (some Try.f21) (.nd .lf (some Try.f53) .lf)) none (.nd (.nd .lf (some Try.f45) .lf) (some Try.f29) .lf)))) none (.nd (.nd (.nd (.nd (.nd (.nd .lf (some Try.f64) .lf) none .lf) none (.nd .lf (some Try.f48) .lf)) (some Try.f8) (.nd (.nd (.nd .lf (some Try.f72) .lf) (some Try.f40) .lf) (some Try.f24) .lf)) none (.nd (.nd .lf none (.nd .lf (some Try.f52) .lf)) none (.nd (.nd .lf (some Try.f44) .lf) (some Try.f28) .lf))) none (.nd (.nd (.nd (.nd (.nd .lf (some Try.f66) .lf) none .lf) none (.nd .lf (some Try.f50) .lf)) (some Try.f10) (.nd (.nd .lf (some Try.f42) .lf) (some Try.f26) .lf)) none (.nd (.nd (.nd (.nd .lf (some Try.f70) .lf) none .lf) (some Try.f22) (.nd .lf (some Try.f54) .lf)) none (.nd (.nd .lf (some Try.f46) .lf) (some Try.f30) .lf))))
noncomputable def vM : Tr (List (String × Nat)) := .lf
noncomputable def vC : Cx := ⟨vT, vF, mTab vM⟩
theorem vT_ok : vT.All (TIok Try.prog) 1 0 := all_nd all_none (all_nd all_none (all_nd (all_some vt3_ok) (all_nd all_none (all_nd all_none (all_nd all_none (all_nd (all_some vt63_ok) all_lf all_lf) all_lf) (all_nd all_none all_lf (all_nd (all_some vt111_ok) all_lf all_lf))) (all_nd all_none all_lf (all_nd all_none (all_nd (all_some vt87_ok) all_lf all_lf) all_lf))) (all_nd all_none all_lf (all_nd (all_some vt27_ok) (all_nd (all_some vt43_ok) all_lf all_lf) all_lf))) (all_nd (all_some vt5_ok) (all_nd (all_some vt9_ok) (all_nd all_none all_lf (all_nd (all_some vt49_ok) all_lf all_lf)) all_lf) (all_nd all_none all_lf (all_nd (all_some vt29_ok) all_lf all_lf)))) (all_nd all_none (all_nd (all_some vt4_ok) (all_nd all_none all_lf (all_nd (all_some vt24_ok) all_lf all_lf)) (all_nd all_none (all_nd (all_some vt20_ok) all_lf all_lf) (all_nd all_none all_lf (all_nd (all_some vt60_ok) all_lf all_lf)))) (all_nd all_none (all_nd all_none all_lf (all_nd (all_some vt26_ok) (all_nd all_none all_lf (all_nd (all_some vt106_ok) all_lf all_lf)) all_lf)) (all_nd all_none (all_nd (all_some vt22_ok) all_lf all_lf) (all_nd (all_some vt30_ok) all_lf all_lf))))
theorem vF_ok : vF.All (FnOk Try.prog) 1 0 := all_nd all_none (all_nd all_none (all_nd all_none (all_nd (all_some vf7_ok) (all_nd (all_some vf15_ok) all_lf (all_nd (all_some vf47_ok) all_lf all_lf)) (all_nd all_none (all_nd (all_some vf39_ok) (all_nd (all_some vf71_ok) all_lf all_lf) all_lf) all_lf)) (all_nd (all_some vf11_ok) (all_nd all_none (all_nd all_none (all_nd (all_some vf67_ok) all_lf all_lf) all_lf) (all_nd (all_some vf51_ok) all_lf all_lf)) (all_nd (all_some vf27_ok) (all_nd (all_some vf43_ok) all_lf all_lf) all_lf))) (all_nd all_none (all_nd (all_some vf9_ok) (all_nd (all_some vf17_ok) (all_nd all_none (all_nd (all_some vf65_ok) all_lf all_lf) all_lf) (all_nd (all_some vf49_ok) all_lf all_lf)) (all_nd (all_some vf25_ok) (all_nd (all_some vf41_ok) all_lf all_lf) all_lf)) (all_nd all_none (all_nd (all_some vf21_ok) (all_nd (all_some vf37_ok) (all_nd (all_some vf69_ok) all_lf all_lf) all_lf) (all_nd (all_some vf53_ok) all_lf all_lf)) (all_nd (all_some vf29_ok) (all_nd (all_some vf45_ok) all_lf all_lf) all_lf)))) (all_nd all_none (all_nd all_none (all_nd (all_some vf8_ok) (all_nd all_none (all_nd all_none (all_nd (all_some vf64_ok) all_lf all_lf) all_lf) (all_nd (all_some vf48_ok) all_lf all_lf)) (all_nd (all_some vf24_ok) (all_nd (all_some vf40_ok) (all_nd (all_some vf72_ok) all_lf all_lf) all_lf) all_lf)) (all_nd all_none (all_nd all_none all_lf (all_nd (all_some vf52_ok) all_lf all_lf)) (all_nd (all_some vf28_ok) (all_nd (all_some vf44_ok) all_lf all_lf) all_lf))) (all_nd all_none (all_nd (all_some vf10_ok) (all_nd all_none (all_nd all_none (all_nd (all_some vf66_ok) all_lf all_lf) all_lf) (all_nd (all_some vf50_ok) all_lf all_lf)) (all_nd (all_some vf26_ok) (all_nd (all_some vf42_ok) all_lf all_lf) all_lf)) (all_nd all_none (all_nd (all_some vf22_ok) (all_nd all_none (all_nd (all_some vf70_ok) all_lf all_lf) all_lf) (all_nd (all_some vf54_ok) all_lf all_lf)) (all_nd (all_some vf30_ok) (all_nd (all_some vf46_ok) all_lf all_lf) all_lf))))
theorem vM_ok : vM.All (MethsOk Try.prog) 1 0 := all_lf
theorem vC_ok : COk Try.prog vC := cok_of vT_ok vF_ok vM_ok (by kernel_rfl)
theorem vcall_ok0 {ext : CallF} {extd : DefF} (he : CallOk Try.prog ext) (hd : DefOk Try.prog extd) (n : Nat) : CallOk Try.prog (vcall vC ext extd n) := vcall_ok vC_ok (callT_of vC_ok) he hd n
end Go.Proofs.Ytabpegdalmagpaa
/- What the machine's table of types tells, as instances. Written by wip/bin/vmt.py. -/
set_option maxRecDepth 100000
namespace Go.Proofs.Ytabpegdalmagpaa
theorem wt3 : tiV vC 3 = some vt3 := by kernel_rfl
instance : SizeV vC 3 1 := ⟨_, wt3, rfl⟩
instance : RowV vC 3 false := ⟨_, wt3, rfl⟩
instance : IntV vC 3 .i64 := ⟨_, wt3, rfl⟩
instance : ZeroV vC 3 (.i .i64 (.ofNat 0)) := ⟨_, wt3, rfl⟩
theorem wt4 : tiV vC 4 = some vt4 := by kernel_rfl
instance : TiV vC 4 vt4 := ⟨wt4⟩
instance : SizeV vC 4 1 := ⟨_, wt4, rfl⟩
instance : RowV vC 4 false := ⟨_, wt4, rfl⟩
theorem wt5 : tiV vC 5 = some vt5 := by kernel_rfl
instance : TiV vC 5 vt5 := ⟨wt5⟩
instance : SizeV vC 5 1 := ⟨_, wt5, rfl⟩
instance : RowV vC 5 false := ⟨_, wt5, rfl⟩
instance : IntV vC 5 .u8 := ⟨_, wt5, rfl⟩
instance : GrowV vC 5 := ⟨_, wt5, by kernel_rfl⟩
instance : ZeroV vC 5 (.i .u8 (.ofNat 0)) := ⟨_, wt5, rfl⟩
theorem wt9 : tiV vC 9 = some vt9 := by kernel_rfl
instance : StrV vC 9 := ⟨_, wt9, rfl⟩
theorem wt20 : tiV vC 20 = some vt20 := by kernel_rfl
instance : IfcV vC 20 := ⟨_, wt20, rfl⟩
theorem wt22 : tiV vC 22 = some vt22 := by kernel_rfl
instance : SizeV vC 22 1 := ⟨_, wt22, rfl⟩
instance : RowV vC 22 false := ⟨_, wt22, rfl⟩
instance : SliceV vC 22 5 := ⟨_, wt22, rfl⟩
instance : GrowV vC 22 := ⟨_, wt22, by kernel_rfl⟩
instance : ZeroV vC 22 (.sl none 0 0 false) := ⟨_, wt22, rfl⟩
theorem wt24 : tiV vC 24 = some vt24 := by kernel_rfl
instance : TiV vC 24 vt24 := ⟨wt24⟩
instance : SizeV vC 24 32 := ⟨_, wt24, rfl⟩
instance : RowV vC 24 true := ⟨_, wt24, rfl⟩
instance : ArrV vC 24 32 5 := ⟨_, wt24, rfl⟩
instance : GrowV vC 24 := ⟨_, wt24, by kernel_rfl⟩
instance : ZeroV vC 24 (.agg (List.replicate 32 (.i .u8 (.ofNat 0)))) := ⟨_, wt24, by kernel_rfl⟩
theorem wt26 : tiV vC 26 = some vt26 := by kernel_rfl
instance : SizeV vC 26 34 := ⟨_, wt26, rfl⟩
instance : RowV vC 26 true := ⟨_, wt26, rfl⟩
instance : PlV vC 26 [(0, 1), (1, 32), (33, 1)] := ⟨by kernel_rfl⟩
instance : FieldV vC 26 0 0 3 := fieldV_of _ _ wt26 rfl rfl
instance : FieldV vC 26 1 1 24 := fieldV_of _ _ wt26 rfl rfl
instance : FieldV vC 26 2 33 22 := fieldV_of _ _ wt26 rfl rfl
instance : ZeroV vC 26 (.agg [.i .i64 (.ofNat 0), .i .u8 (.ofNat 0), .i .u8 (.ofNat 0), .i .u8 (.ofNat 0), .i .u8 (.ofNat 0), .i .u8 (.ofNat 0), .i .u8 (.ofNat 0), .i .u8 (.ofNat 0), .i .u8 (.ofNat 0), .i .u8 (.ofNat 0), .i .u8 (.ofNat 0), .i .u8 (.ofNat 0), .i .u8 (.ofNat 0), .i .u8 (.ofNat 0), .i .u8 (.ofNat 0), .i .u8 (.ofNat 0), .i .u8 (.ofNat 0), .i .u8 (.ofNat 0), .i .u8 (.ofNat 0), .i .u8 (.ofNat 0), .i .u8 (.ofNat 0), .i .u8 (.ofNat 0), .i .u8 (.ofNat 0), .i .u8 (.ofNat 0), .i .u8 (.ofNat 0), .i .u8 (.ofNat 0), .i .u8 (.ofNat 0), .i .u8 (.ofNat 0), .i .u8 (.ofNat 0), .i .u8 (.ofNat 0), .i .u8 (.ofNat 0), .i .u8 (.ofNat 0), .i .u8 (.ofNat 0), .sl none 0 0 false]) := ⟨_, wt26, by kernel_rfl⟩
theorem wt27 : tiV vC 27 = some vt27 := by kernel_rfl
instance : SizeV vC 27 544 := ⟨_, wt27, rfl⟩
instance : ArrV vC 27 16 26 := ⟨_, wt27, rfl⟩
abbrev zl23 : List V := (List.replicate 32 ([.i .u8 (.ofNat 0)])).flatten
abbrev zl25 : List V := [.i .i64 (.ofNat 0)] ++ (zl23 ++ ([.sl none 0 0 false]))
abbrev zl27 : List V := (List.replicate 16 (zl25)).flatten
abbrev zl28 : List V := [.i .i64 (.ofNat 0), .sl none 0 0 false, .sl none 0 0 false, .b false] ++ (zl25 ++ (zl27))
theorem wt29 : tiV vC 29 = some vt29 := by kernel_rfl
instance : SizeV vC 29 582 := ⟨_, wt29, rfl⟩
instance : RowV vC 29 true := ⟨_, wt29, rfl⟩
instance : PlV vC 29 [(0, 1), (1, 1), (2, 1), (3, 1), (4, 34), (38, 544)] := ⟨by kernel_rfl⟩
instance : FieldV vC 29 0 0 3 := fieldV_of _ _ wt29 rfl rfl
instance : FieldV vC 29 1 1 22 := fieldV_of _ _ wt29 rfl rfl
instance : FieldV vC 29 2 2 22 := fieldV_of _ _ wt29 rfl rfl
instance : FieldV vC 29 3 3 4 := fieldV_of _ _ wt29 rfl rfl
instance : FieldV vC 29 4 4 26 := fieldV_of _ _ wt29 rfl rfl
instance : FieldV vC 29 5 38 27 := fieldV_of _ _ wt29 rfl rfl
instance : ZeroV vC 29 (.agg zl28) := ⟨_, wt29, by kernel_rfl⟩
theorem wt30 : tiV vC 30 = some vt30 := by kernel_rfl
instance : SizeV vC 30 1 := ⟨_, wt30, rfl⟩
instance : RowV vC 30 false := ⟨_, wt30, rfl⟩
theorem wt43 : tiV vC 43 = some vt43 := by kernel_rfl
instance : SliceV vC 43 22 := ⟨_, wt43, rfl⟩
theorem wt49 : tiV vC 49 = some vt49 := by kernel_rfl
instance : SliceV vC 49 24 := ⟨_, wt49, rfl⟩
theorem wt60 : tiV vC 60 = some vt60 := by kernel_rfl
instance : SizeV vC 60 1 := ⟨_, wt60, rfl⟩
instance : RowV vC 60 false := ⟨_, wt60, rfl⟩
instance : SliceV vC 60 63 := ⟨_, wt60, rfl⟩
theorem wt63 : tiV vC 63 = some vt63 := by kernel_rfl
instance : SizeV vC 63 3 := ⟨_, wt63, rfl⟩
instance : RowV vC 63 true := ⟨_, wt63, rfl⟩
instance : PlV vC 63 [(0, 1), (1, 1), (2, 1)] := ⟨by kernel_rfl⟩
instance : FieldV vC 63 0 0 4 := fieldV_of _ _ wt63 rfl rfl
instance : FieldV vC 63 1 1 22 := fieldV_of _ _ wt63 rfl rfl
instance : FieldV vC 63 2 2 60 := fieldV_of _ _ wt63 rfl rfl
instance : GrowV vC 63 := ⟨_, wt63, by kernel_rfl⟩
instance : ZeroV vC 63 (.agg [.b false, .sl none 0 0 false, .sl none 0 0 false]) := ⟨_, wt63, by kernel_rfl⟩
theorem wt87 : tiV vC 87 = some vt87 := by kernel_rfl
instance : TiV vC 87 vt87 := ⟨wt87⟩
instance : SizeV vC 87 2 := ⟨_, wt87, rfl⟩
instance : RowV vC 87 true := ⟨_, wt87, rfl⟩
instance : PlV vC 87 [(0, 1), (1, 1)] := ⟨by kernel_rfl⟩
instance : FieldV vC 87 0 0 3 := fieldV_of _ _ wt87 rfl rfl
instance : FieldV vC 87 1 1 30 := fieldV_of _ _ wt87 rfl rfl
instance : ZeroV vC 87 (.agg [.i .i64 (.ofNat 0), .i .i64 (.ofNat 0)]) := ⟨_, wt87, by kernel_rfl⟩
theorem wt106 : tiV vC 106 = some vt106 := by kernel_rfl
instance : PlV vC 106 [(0, 1), (1, 1)] := ⟨by kernel_rfl⟩
instance : FieldV vC 106 0 0 22 := fieldV_of _ _ wt106 rfl rfl
instance : FieldV vC 106 1 1 3 := fieldV_of _ _ wt106 rfl rfl
instance : ZeroV vC 106 (.agg [.sl none 0 0 false, .i .i64 (.ofNat 0)]) := ⟨_, wt106, by kernel_rfl⟩
theorem wt111 : tiV vC 111 = some vt111 := by kernel_rfl
instance : IntV vC 111 .u64 := ⟨_, wt111, rfl⟩
end Go.Proofs.Ytabpegdalmagpaa
/- No lock in this program. -/
/- No slices.Sort at []string in this program. -/
/- Vst: what the machine is told of slices.Sort at []string, and that it is so (by the library's contract). By this project. -/
set_option maxRecDepth 100000
namespace Go.Proofs.Ytabpegdalmagpaa
open Go.RowKit Go.Extern.Stop Go.Sort
end Go.Proofs.Ytabpegdalmagpaa
/- Vap: rows of bytes that share no room (Apart), and that it leaves all else as it is. By this project. -/
set_option maxRecDepth 100000
namespace Go.Proofs.Ytabpegdalmagpaa
open Go.RowKit Go.Extern.Stop
section
variable {P : Program} {n : Nat} {w0 : World} {l : FL} {L : HL} {Q : GQ} {ops : Array Oper} {rest : List Oper}
def Has (L : HL) (b j : Nat) (v : Value) : Prop := ∃ (i : Nat) (C : List Value) (E : TypeId), L[i]? = some (some b, .cells C.toArray E (0, 0)) ∧ C[j]? = some v
def Room (L : HL) (b m : Nat) : Prop := ∃ (i : Nat) (C : List Value) (E : TypeId), L[i]? = some (some b, .cells C.toArray E (0, 0)) ∧ m ≤ C.length
def Old (L : HL) (b : Nat) : Prop := ∃ (i : Nat) (o : Obj), L[i]? = some (some b, o)
def Stands (L : HL) (b : Nat) (o : Obj) : Prop := ∃ i : Nat, L[i]? = some (some b, o)
theorem Stands.more {b : Nat} {o : Obj} {x : Option Nat × Obj} (h : Stands L b o) : Stands (x :: L) b o := by obtain ⟨i, h1⟩ := h; exact ⟨i + 1, by simpa using h1⟩
theorem Stands.old {b : Nat} {o : Obj} (h : Stands L b o) : Old L b := by obtain ⟨i, h1⟩ := h; exact ⟨i, o, h1⟩
theorem Has.old {b j : Nat} {v : Value} (h : Has L b j v) : Old L b := by obtain ⟨i, C, E, h1, _⟩ := h; exact ⟨i, _, h1⟩
theorem Room.old {b m : Nat} (h : Room L b m) : Old L b := by obtain ⟨i, C, E, h1, _⟩ := h; exact ⟨i, _, h1⟩
theorem Room.less {b m k : Nat} (h : Room L b m) (hk : k ≤ m) : Room L b k := by obtain ⟨i, C, E, h1, h2⟩ := h; exact ⟨i, C, E, h1, by omega⟩
theorem Has.more {b j : Nat} {v : Value} {x : Option Nat × Obj} (h : Has L b j v) : Has (x :: L) b j v := by obtain ⟨i, C, E, h1, h2⟩ := h; exact ⟨i + 1, C, E, by simpa using h1, h2⟩
theorem Room.more {b m : Nat} {x : Option Nat × Obj} (h : Room L b m) : Room (x :: L) b m := by obtain ⟨i, C, E, h1, h2⟩ := h; exact ⟨i + 1, C, E, by simpa using h1, h2⟩
theorem Old.more {b : Nat} {x : Option Nat × Obj} (h : Old L b) : Old (x :: L) b := by obtain ⟨i, o, h1⟩ := h; exact ⟨i + 1, o, by simpa using h1⟩
theorem not_old {w : World} {b : Nat} {o : Obj} (h : St w0 w ((some b, o) :: L)) : ¬ Old L b := fun ⟨i, o', hi⟩ => by
 have := h.one 0 (i + 1) b o o' rfl (by simpa using hi)
 omega
theorem Has.lies {b j : Nat} {v : Value} (h : Has L b j v) : Lies w0 L (some ⟨b, j, none⟩) [v] := fun w hs => by
 obtain ⟨i, C, E, h1, h2⟩ := h
 have hb := (hs.has i b _ h1).1
 refine ⟨_, rfl, fun k u hu => ?_⟩
 cases k with
 | zero =>
  simp at hu
  subst hu
  have e0 : (⟨b, j, none⟩ : Addr).add 0 = ⟨b, j, none⟩ := rfl
  rw [e0]
  simp [World.cell?, hb, h2]
 | succ k => simp at hu
theorem has_rs {b o : Nat} {cs : List Value} (h : ∀ (t : Nat) (v : Value), cs[t]? = some v → Has L b (o + t) v) : RS w0 L (some ⟨b, o, none⟩) cs := fun w hs j v hv => by
 obtain ⟨i, C, E, h1, h2⟩ := h j v hv
 have hb := (hs.has i b _ h1).1
 refine ⟨_, rfl, ?_⟩
 rw [Addr.add_mid]
 simp [World.cell?, hb, h2]
theorem has_row {i : Nat} {b : Nat} {C : List Value} {E : TypeId} {j : Nat} {v : Value} (h : L[i]? = some (some b, .cells C.toArray E (0, 0))) (hj : C[j]? = some v) : Has L b j v := ⟨i, C, E, h, hj⟩
structure ChgH (L L' : HL) (b o : Nat) (v : Value) : Prop where
 has : Has L' b o v
 keep : ∀ b' j u, (b' ≠ b ∨ j ≠ o) → Has L b' j u → Has L' b' j u
 room : ∀ b' m, Room L b' m → Room L' b' m
 old : ∀ b', Old L b' → Old L' b'
 obj : ∀ b' ob, b' ≠ b → Stands L b' ob → Stands L' b' ob
theorem chg_set {i b o : Nat} {C : List Value} {E : TypeId} {v : Value} (h : L[i]? = some (some b, .cells C.toArray E (0, 0))) (ho : o < C.length) : ChgH L (L.set i (some b, .cells (C.set o v).toArray E (0, 0))) b o v := by
 have hi : i < L.length := (List.getElem?_eq_some_iff.1 h).1
 refine ⟨⟨i, C.set o v, E, by simp [hi], by simp [ho]⟩, fun b' j u hne ⟨k, D, F, h1, h2⟩ => ?_, fun b' m ⟨k, D, F, h1, h2⟩ => ?_, fun b' ⟨k, x, h1⟩ => ?_, fun b' ob hne ⟨k, h1⟩ => ⟨k, by
  rw [List.getElem?_set_ne (fun e => by
   subst e
   rw [h] at h1
   simp only [Option.some.injEq, Prod.mk.injEq] at h1
   exact hne h1.1.symm)]
  exact h1⟩⟩
 ·by_cases e : i = k
  ·subst e
   rw [h] at h1
   simp only [Option.some.injEq, Prod.mk.injEq, Obj.cells.injEq] at h1
   obtain ⟨rfl, h3, rfl, _⟩ := h1
   have h3 : C = D := by simpa using congrArg Array.toList h3
   subst h3
   refine ⟨i, C.set o v, E, by simp [hi], ?_⟩
   rw [List.getElem?_set_ne (by rcases hne with e | e; exact absurd rfl e; omega)]
   exact h2
  ·exact ⟨k, D, F, by rw [List.getElem?_set_ne e]; exact h1, h2⟩
 ·by_cases e : i = k
  ·subst e
   rw [h] at h1
   simp only [Option.some.injEq, Prod.mk.injEq, Obj.cells.injEq] at h1
   obtain ⟨rfl, h3, rfl, _⟩ := h1
   have h3 : C = D := by simpa using congrArg Array.toList h3
   subst h3
   exact ⟨i, C.set o v, E, by simp [hi], by simpa using h2⟩
  ·exact ⟨k, D, F, by rw [List.getElem?_set_ne e]; exact h1, h2⟩
 ·by_cases e : i = k
  ·subst e
   rw [h] at h1
   simp only [Option.some.injEq, Prod.mk.injEq] at h1
   obtain ⟨rfl, _⟩ := h1
   exact ⟨i, .cells (C.set o v).toArray E (0, 0), by simp [hi]⟩
  ·exact ⟨k, x, by rw [List.getElem?_set_ne e]; exact h1⟩
theorem ef_stH {K : FL → HL → Prop} {t : TypeId} {x y : Operand} {b o : Nat} {v : Value} {ty : TypeId} {ps : String} {af : Array Edge} {gd : Option (Nat × Bool)} (hx : evl l x = some (.pointer (some ⟨b, o, none⟩))) (hy : evl l y = some v) [hz : SizeT P t 1] (hr : Room L b (o + 1)) (h1 : v.oneCell' = true)
  (k : ∀ L', ChgH L L' b o v → K l L') : EF P n w0 l L ⟨none, .store t x y, ty, ps, af, gd⟩ K := by
 obtain ⟨i, C, E, h2, h3⟩ := hr
 haveI : AtL b L (.cells C.toArray E (0, 0)) i := ⟨h2⟩
 haveI : SetL L i (some b, .cells (C.set o v).toArray E (0, 0)) (L.set i (some b, .cells (C.set o v).toArray E (0, 0))) := ⟨rfl⟩
 exact ef_st hx hy (by omega) (by simp) h1 (k _ (chg_set h2 (by omega)))
theorem overC_set (C : List Value) (o : Nat) (v : Value) (h : o < C.length) : overC C o [v] = C.set o v := by
 rw [List.set_eq_take_append_cons_drop, if_pos h]; simp [overC]
structure Ap1 (L L' : HL) (A : Option Addr) (m c : Nat) (f : Nat → Value) (v : Value) (b o c' : Nat) : Prop where
 cap : m + 1 ≤ c'
 room : Room L' b (o + c')
 rows : ∀ t, t < m → Has L' b (o + t) (f t)
 last : Has L' b (o + m) v
 keep : ∀ b' j u, (b' ≠ b ∨ j ≠ o + m) → Has L b' j u → Has L' b' j u
 rooms : ∀ b' k, Room L b' k → Room L' b' k
 olds : ∀ b', Old L b' → Old L' b'
 objs : ∀ b' ob, b' ≠ b → Stands L b' ob → Stands L' b' ob
 which : (A = some ⟨b, o, none⟩ ∧ c' = c ∧ m < c) ∨ (o = 0 ∧ ¬ Old L b)
theorem gl_ap1 {tS tX e e' : TypeId} {s x : Operand} {A B : Option Addr} {m c c2 bs d : Nat} {z v : Value} {f : Nat → Value} {ty : TypeId} {ps : String} {af : Array Edge} {gd : Option (Nat × Bool)} (hw : Want ops l ⟨some d, .call { callee := .builtin .append, args := #[s, x], argTypes := #[tS, tX] }, ty, ps, af, gd⟩) (hlt : Nat.ble (d + 1) n = true)
  (hs : evl l s = some (.slice A m c)) (hx : evl l x = some (.slice B 1 c2)) [tS' : SliceT P tS e] [tX' : SliceT P tX e'] [hz : SizeT P e 1] [hb : BytesT P e bs] [hZ : ZeroT P e z] {zc : List Value} [hzc : CellsOf z zc] (hzl : zc.length = 1)
  (hmc : m ≤ c) (hA : 0 < c → ∃ b o, A = some ⟨b, o, none⟩ ∧ Room L b (o + c) ∧ ∀ t, t < m → Has L b (o + t) (f t)) (hnew : RS w0 L B [v]) (h1 : v.oneCell' = true) (hf1 : ∀ t, t < m → (f t).oneCell' = true) (h63 : m + 1 ≤ 9223372036854775807) (hfit : (m + 1 + (m + 1) / 4 + 192) * bs ≤ 281474976710656)
  (k : ∀ L' b o c', Ap1 L L' A m c f v b o c' → GL P n w0 ops rest ((d, .slice (some ⟨b, o, none⟩) (m + 1) c') :: l) L' Q) :
  GL P n w0 ops (⟨some d, .call { callee := .builtin .append, args := #[s, x], argTypes := #[tS, tX] }, ty, ps, af, gd⟩ :: rest) l L Q := by
 by_cases hg : m < c
 ·obtain ⟨b, o, rfl, hr, hfs⟩ := hA (by omega)
  have hr' := hr
  obtain ⟨i, C, E, h2, h3⟩ := hr
  haveI : AtL b L (.cells C.toArray E (0, 0)) i := ⟨h2⟩
  haveI : SetL L i (some b, .cells (C.set (o + m) v).toArray E (0, 0)) (L.set i (some b, .cells (C.set (o + m) v).toArray E (0, 0))) := ⟨rfl⟩
  have hc := chg_set (v := v) h2 (o := o + m) (by omega)
  refine gl_w hw (ef_appR (C := C) (C' := C.set (o + m) v) (sz := 1) (new := [v]) hlt hs hx hnew rfl (by simpa using h1) (by decide) (by omega) (by omega) (by rw [Nat.mul_one]; exact overC_set C _ v (by omega)) ?_)
  exact k _ b o c ⟨by omega, hc.room _ _ hr', fun t ht => hc.keep _ _ _ (.inr (by omega)) (hfs t ht), hc.has, hc.keep, hc.room, hc.old, hc.obj, .inl ⟨rfl, rfl, hg⟩⟩
 ·obtain rfl : m = c := by omega
  have hold : RS w0 L A ((List.range m).map f) := by
   by_cases hm : 0 < m
   ·obtain ⟨b, o, rfl, hr, hfs⟩ := hA hm
    refine has_rs fun t u hu => ?_
    rw [List.getElem?_map] at hu
    cases ht : (List.range m)[t]? with
    | none => rw [ht] at hu; simp at hu
    | some t' =>
     obtain ⟨t1, t2⟩ := List.getElem?_eq_some_iff.1 ht
     simp at t1 t2
     subst t2
     rw [ht] at hu
     simp at hu
     subst hu
     exact hfs t t1
   ·have : m = 0 := by omega
    subst this
    exact rs_nil
  refine gl_w hw (ef_appG (sz := 1) (old := (List.range m).map f) (new := [v]) hlt hs hx hzl hold (by simp) hnew rfl (by simpa using h1) (by decide) (by omega) h63 hfit ?_)
  intro b sp c' g1 g2
  refine gl_know (fun w hs => not_old hs) fun hno => ?_
  have hrow : ((some b, Obj.cells ((List.range m).map f ++ [v] ++ sp).toArray e (0, 0)) :: L)[0]? = some (some b, .cells ((List.range m).map f ++ [v] ++ sp).toArray e (0, 0)) := rfl
  refine k _ b 0 c' ⟨g1, ⟨0, _, _, hrow, by simp [g2]; omega⟩, fun t ht => ?_, ?_, fun b' j u _ h => h.more, fun b' k h => h.more, fun b' h => h.more, fun b' ob _ h => h.more, .inr ⟨rfl, hno⟩⟩
  ·refine has_row hrow ?_
   rw [Nat.zero_add, List.append_assoc, List.getElem?_append_left (by simpa using ht)]
   simp [ht]
  ·refine has_row hrow ?_
   rw [Nat.zero_add, List.append_assoc, List.getElem?_append_right (by simp)]
   simp
end
section
variable {P : Program} {n : Nat} {w0 : World} {l : FL} {L : HL} {Q : GQ} {ops : Array Oper} {rest : List Oper}
theorem ov_iab {t e : TypeId} {x y : Operand} {b o m c i : Nat} {k : IntKind} {v : Int} {dst : Option Tmp} {ty : TypeId} {ps : String} {af : Array Edge} {gd : Option (Nat × Bool)} (hx : evl l x = some (.slice (some ⟨b, o, none⟩) m c)) (hy : evl l y = some (.int k v)) [ht : SliceT P t e] [hz : SizeT P e 1]
  (hv : v = (i : Nat)) (hi : i < m) : OV P w0 L l ⟨dst, .indexAddr t x y, ty, ps, af, gd⟩ (.pointer (some ⟨b, o + i, none⟩)) := by
 subst hv
 have := ov_ia (P := P) (w0 := w0) (L := L) (l := l) (t := t) (dst := dst) (ty := ty) (ps := ps) (af := af) (gd := gd) hx hy (by omega) (by omega) (fun h => by cases h)
 simpa [Addr.add_mid] using this
theorem ov_ldH {t : TypeId} {x : Operand} {b o : Nat} {v : Value} {dst : Option Tmp} {ty : TypeId} {ps : String} {af : Array Edge} {gd : Option (Nat × Bool)} (hx : evl l x = some (.pointer (some ⟨b, o, none⟩))) [ht : RowT P t false] (h : Has L b o v) : OV P w0 L l ⟨dst, .load t x, ty, ps, af, gd⟩ v := ov_ld hx h.lies
end
structure Rg where
 A : Option Addr
 b : Nat
 o : Nat
 m : Nat
 c : Nat
def Rg.v (r : Rg) : Value := .slice r.A r.m r.c
instance (x : Rg) : CellsOf x.v [x.v] := ⟨rfl⟩
structure Rg.ok (L : HL) (r : Rg) : Prop where
 le : r.m ≤ r.c
 at_ : 0 < r.c → r.A = some ⟨r.b, r.o, none⟩ ∧ Room L r.b (r.o + r.c)
def Rg.sep (r s : Rg) : Prop := r.c = 0 ∨ s.c = 0 ∨ r.b ≠ s.b ∨ r.o + r.c ≤ s.o ∨ s.o + s.c ≤ r.o
abbrev mk (i : Nat) : Value := .int .u8 (IntKind.u8.wrap (IntKind.i64.wrap ((i : Int) + 1)))
def Mk (L : HL) (r : Rg) (i : Nat) : Prop := ∀ t, t < r.m → Has L r.b (r.o + t) (mk i)
structure ApIn (L : HL) (rs : List Rg) (bl ol : Nat) : Prop where
 hdr : ∀ t r, rs[t]? = some r → Has L bl (ol + t) r.v
 ok : ∀ r ∈ rs, r.ok L
 ne : ∀ r ∈ rs, 0 < r.c → r.b ≠ bl
 sep : ∀ (i j : Nat) (r s : Rg), rs[i]? = some r → rs[j]? = some s → i ≠ j → r.sep s
 few : rs.length ≤ 1073741824
 short : ∀ r ∈ rs, r.m ≤ 1099511627776
theorem ApIn.chg {L L' : HL} {rs : List Rg} {bl ol b o : Nat} {v : Value} (h : ApIn L rs bl ol) (hc : ChgH L L' b o v) (hb : b ≠ bl) : ApIn L' rs bl ol :=
 ⟨fun t r hr => hc.keep _ _ _ (.inl fun e => hb e.symm) (h.hdr t r hr), fun r hr => ⟨(h.ok r hr).le, fun h0 => ⟨((h.ok r hr).at_ h0).1, hc.room _ _ ((h.ok r hr).at_ h0).2⟩⟩, h.ne, h.sep, h.few, h.short⟩
theorem ApIn.rs {w0 : World} {L : HL} {rs : List Rg} {bl ol : Nat} (h : ApIn L rs bl ol) : RS w0 L (some ⟨bl, ol, none⟩) (rs.map Rg.v) := has_rs fun t v hv => by
 rw [List.getElem?_map] at hv
 cases hr : rs[t]? with
 | none => rw [hr] at hv; simp at hv
 | some r => rw [hr] at hv; simp at hv; subst hv; exact h.hdr t r hr
structure Kp (L0 L : HL) (rs : List Rg) : Prop where
 obj : ∀ b ob, Stands L0 b ob → (∀ r ∈ rs, 0 < r.c → r.b ≠ b) → Stands L b ob
 old : ∀ b, Old L0 b → Old L b
theorem Kp.refl (L : HL) (rs : List Rg) : Kp L L rs := ⟨fun _ _ h _ => h, fun _ h => h⟩
theorem Kp.chg {L0 L L' : HL} {rs : List Rg} {r : Rg} {o : Nat} {v : Value} (h : Kp L0 L rs) (hr : r ∈ rs) (h0 : 0 < r.c) (hc : ChgH L L' r.b o v) : Kp L0 L' rs := ⟨fun b ob hs hn => hc.obj b ob (fun e => hn r hr h0 e.symm) (h.obj b ob hs hn), fun b hb => hc.old b (h.old b hb)⟩
structure A2 where
 i : Nat
 L : HL
 ls : Rg
 R : Nat → Rg
structure A2.P (s : A2) (L1 : HL) (rs : List Rg) (bl ol : Nat) : Prop where
 le : s.i ≤ rs.length
 kp : Kp L1 s.L rs
 inp : ApIn s.L rs bl ol
 mks : ∀ j r, rs[j]? = some r → Mk s.L r j
 olds : ∀ b, Old L1 b → Old s.L b
 lsm : s.ls.m = s.i
 lsok : s.ls.ok s.L
 lsnew : 0 < s.ls.c → ¬ Old L1 s.ls.b
 lsv : ∀ t, t < s.i → Has s.L s.ls.b (s.ls.o + t) (s.R t).v
 rk : ∀ j, j < s.i → Mk s.L (s.R j) j ∧ (s.R j).A = some ⟨(s.R j).b, (s.R j).o, none⟩ ∧ (s.R j).m ≤ (s.R j).c ∧ (0 < s.ls.c → (s.R j).b ≠ s.ls.b) ∧ Old s.L (s.R j).b
 rm : ∀ j r, j < s.i → rs[j]? = some r → (s.R j).m = r.m + 80 ∧ ((0 < r.c ∧ (s.R j).b = r.b ∧ (s.R j).o = r.o ∧ (s.R j).c = r.c) ∨ ¬ Old L1 (s.R j).b)
set_option maxHeartbeats 4000000 in
theorem Apart_cls (w0 : World) (L0 : HL) (rs : List Rg) (bl ol cl : Nat) (hin : ApIn L0 rs bl ol) :
  ClS Try.prog 15 #[.slice (some ⟨bl, ol, none⟩) rs.length cl] w0 L0 fun v N => v = .bool true ∧ Kp L0 N rs := by
 refine cls_of_g Try.func15 rfl rfl ?_
 refine ggo ?_
 refine g_cut (fun l L => Sub l [(0, .slice (some ⟨bl, ol, none⟩) rs.length cl)] ∧ Kp L0 L rs ∧ ApIn L rs bl ol ∧ ∀ j r, rs[j]? = some r → Mk L r j) ?_ ?_
 ·refine ggo ?_
  refine g_loop (ι := Nat × HL) (fun s => [(3, .int .i64 (s.1 : Nat)), (0, .slice (some ⟨bl, ol, none⟩) rs.length cl)]) (fun s => s.2) (fun s => s.1 ≤ rs.length ∧ Kp L0 s.2 rs ∧ ApIn s.2 rs bl ol ∧ ∀ j r, j < s.1 → rs[j]? = some r → Mk s.2 r j) (fun s => rs.length - s.1) (0, L0) ⟨Nat.zero_le _, Kp.refl _ _, hin, fun j r h => by omega⟩ ⟨rfl, rfl, trivial⟩ (fun _ h => h) ?_
  rintro ⟨i, L⟩ ⟨hi, hK, hI, hM⟩
  simp only at hi hK hI hM
  dsimp only
  have hfew := hI.few
  refine ggo ?_
  by_cases c1 : i < rs.length
  rotate_left
  ·refine gn (v := .bool false) rfl rfl rfl (ov_int rfl rfl (by rw [bin_lss, decide_eq_false (by omega)])) ?_
   refine ggo ?_
   exact g_exit ⟨⟨rfl, trivial⟩, hK, hI, fun j r hr => hM j r (by have := (List.getElem?_eq_some_iff.1 hr).1; omega) hr⟩
  refine gn (v := .bool true) rfl rfl rfl (ov_int rfl rfl (by rw [bin_lss, decide_eq_true (by omega)])) ?_
  refine ggo ?_
  have hri : rs[i]? = some rs[i] := List.getElem?_eq_getElem c1
  have hmem := List.getElem_mem c1
  generalize rs[i] = r at hri hmem
  have hsh := hI.short r hmem
  refine g_cut (fun l L => Sub l [(3, .int .i64 (i : Nat)), (0, .slice (some ⟨bl, ol, none⟩) rs.length cl)] ∧ Kp L0 L rs ∧ ApIn L rs bl ol ∧ ∀ j r, j < i + 1 → rs[j]? = some r → Mk L r j) ?_ ?_
  ·refine ggo ?_
   refine g_loop (ι := Nat × HL) (fun s => [(4, .int .i64 (s.1 : Nat)), (3, .int .i64 (i : Nat)), (0, .slice (some ⟨bl, ol, none⟩) rs.length cl)]) (fun s => s.2) (fun s => s.1 ≤ r.m ∧ Kp L0 s.2 rs ∧ ApIn s.2 rs bl ol ∧ (∀ j r, j < i → rs[j]? = some r → Mk s.2 r j) ∧ ∀ t, t < s.1 → Has s.2 r.b (r.o + t) (mk i)) (fun s => r.m - s.1) (0, L) ⟨Nat.zero_le _, hK, hI, hM, fun t h => by omega⟩ ⟨rfl, rfl, rfl, trivial⟩ (fun _ h => h) ?_
   clear hM hI hK
   rintro ⟨j, L⟩ ⟨hj, hK, hI, hM, hT⟩
   simp only at hj hK hI hM hT
   dsimp only
   refine ggo ?_
   refine gn rfl rfl rfl (ov_iab rfl rfl rfl c1) ?_
   refine gn rfl rfl rfl (ov_ldH rfl (hI.hdr i r hri)) ?_
   simp only [Rg.v]
   refine ggo ?_
   by_cases c2 : j < r.m
   rotate_left
   ·refine gn (v := .bool false) rfl rfl rfl (ov_int rfl rfl (by rw [bin_lss, decide_eq_false (by omega)])) ?_
    refine ggo ?_
    refine g_exit ⟨⟨rfl, rfl, trivial⟩, hK, hI, fun j' r' h1 h2 => ?_⟩
    by_cases e : j' = i
    ·subst e
     obtain rfl := Option.some.inj (h2.symm.trans hri)
     exact fun t ht => hT t (by omega)
    ·exact hM j' r' (by omega) h2
   refine gn (v := .bool true) rfl rfl rfl (ov_int rfl rfl (by rw [bin_lss, decide_eq_true (by omega)])) ?_
   refine ggo ?_
   obtain ⟨hA, hroom⟩ := (hI.ok r hmem).at_ (by have := (hI.ok r hmem).le; omega)
   refine gn rfl rfl rfl (ov_iab rfl rfl rfl c1) ?_
   refine gn rfl rfl rfl (ov_ldH rfl (hI.hdr i r hri)) ?_
   simp only [Rg.v, hA]
   refine ggo ?_
   refine gn rfl rfl rfl (ov_conv rfl) ?_
   refine gn rfl rfl rfl (ov_iab rfl rfl rfl c2) ?_
   have hle := (hI.ok r hmem).le
   refine gl_w (want_n rfl) (ef_stH rfl rfl (hroom.less (by omega)) rfl fun L' hc => ?_)
   refine ggo ?_
   refine ⟨(j + 1, L'), ⟨c2, hK.chg hmem (by omega) hc, hI.chg hc (hI.ne r hmem (by omega)), fun j' r' h1 h2 t ht => ?_, fun t ht => ?_⟩, by simp only; omega, ⟨?_, rfl, rfl, trivial⟩, fun _ h => h⟩
   ·have hs := hI.sep j' i r' r h2 hri (by omega)
    have hle' := (hI.ok r' (List.mem_of_getElem? h2)).le
    refine hc.keep _ _ _ ?_ (hM j' r' h1 h2 t ht)
    unfold Rg.sep at hs
    by_cases e : r'.b = r.b
    ·exact .inr (by omega)
    ·exact .inl e
   ·by_cases e : t = j
    ·subst e; exact hc.has
    ·exact hc.keep _ _ _ (.inr (by omega)) (hT t (by simp only at ht; omega))
   ·show some (Value.int .i64 (IntKind.i64.wrap ((j : Int) + 1))) = _
    rw [IntWalk.i64_in _ (by omega)]; rfl
  rintro l L' ⟨hsub, hK2, hI2, hM2⟩
  refine g_sub hsub ?_
  refine ggo ?_
  refine ⟨(i + 1, L'), ⟨c1, hK2, hI2, hM2⟩, by simp only; omega, ⟨?_, rfl, trivial⟩, fun _ h => h⟩
  show some (Value.int .i64 (IntKind.i64.wrap ((i : Int) + 1))) = _
  rw [IntWalk.i64_in _ (by omega)]; rfl
 clear hin
 rintro l L1 ⟨hsub, hK1, hI, hM⟩
 refine g_sub hsub ?_
 refine ggo ?_
 have hfew := hI.few
 have hobl : ∀ r ∈ rs, Old L1 bl := fun r hr => by
  obtain ⟨t, ht⟩ := List.getElem?_of_mem hr
  exact (hI.hdr t r ht).old
 have hor : ∀ r ∈ rs, 0 < r.c → Old L1 r.b := fun r hr h0 => ((hI.ok r hr).at_ h0).2.old
 clear hsub
 refine g_cut (fun l L => ∃ s : A2, s.P L1 rs bl ol ∧ s.i = rs.length ∧ L = s.L ∧ Sub l [(5, .slice s.ls.A s.i s.ls.c), (0, .slice (some ⟨bl, ol, none⟩) rs.length cl)]) ?_ ?_
 ·refine ggo ?_
  refine g_loop (ι := A2) (fun s => [(6, .int .i64 (s.i : Nat)), (5, .slice s.ls.A s.i s.ls.c), (0, .slice (some ⟨bl, ol, none⟩) rs.length cl)]) (fun s => s.L) (fun s => s.P L1 rs bl ol) (fun s => rs.length - s.i) ⟨0, L1, ⟨none, 0, 0, 0, 0⟩, fun _ => ⟨none, 0, 0, 0, 0⟩⟩
   ⟨Nat.zero_le _, Kp.refl _ _, hI, hM, fun _ h => h, rfl, ⟨Nat.le_refl _, fun h => absurd h (Nat.lt_irrefl 0)⟩, (fun h => absurd h (Nat.lt_irrefl 0)), (fun t h => by simp only at h; omega), (fun j h => by simp only at h; omega), (fun j r h => by simp only at h; omega)⟩ ⟨rfl, rfl, rfl, trivial⟩ (fun _ h => h) ?_
  clear hM hI
  rintro ⟨i, L, ls, R⟩ hP
  have hP' := hP
  obtain ⟨hi, hK, hI, hM, holds, lsm, lsok, lsnew, lsv, rk, rm⟩ := hP
  simp only at hi hK hI hM holds lsm lsok lsnew lsv rk rm
  dsimp only
  refine ggo ?_
  by_cases c1 : i < rs.length
  rotate_left
  ·refine gn (v := .bool false) rfl rfl rfl (ov_int rfl rfl (by rw [bin_lss, decide_eq_false (by omega)])) ?_
   refine ggo ?_
   exact g_exit ⟨_, hP', by simp only; omega, rfl, ⟨rfl, rfl, trivial⟩⟩
  refine gn (v := .bool true) rfl rfl rfl (ov_int rfl rfl (by rw [bin_lss, decide_eq_true (by omega)])) ?_
  refine ggo ?_
  have hri : rs[i]? = some rs[i] := List.getElem?_eq_getElem c1
  have hmem := List.getElem_mem c1
  generalize rs[i] = r at hri hmem
  have hsh := hI.short r hmem
  have hrok := hI.ok r hmem
  refine g_seq ?_
  refine ggo ?_
  refine gn rfl rfl rfl (ov_iab rfl rfl rfl c1) ?_
  refine gn rfl rfl rfl (ov_ldH rfl (hI.hdr i r hri)) ?_
  refine ggo ?_
  refine g_cut (fun l L' => ∃ x : Rg, x.ok L' ∧ x.m = r.m + 80 ∧ Mk L' x i ∧ ((x.b = r.b ∧ x.o = r.o ∧ x.c = r.c) ∨ ¬ Old L x.b) ∧ (∀ b k, Room L b k → Room L' b k) ∧ (∀ b, Old L b → Old L' b) ∧ (∀ b j v, Has L b j v → ¬ (0 < r.c ∧ b = r.b ∧ r.o + r.m ≤ j ∧ j < r.o + r.c) → Has L' b j v) ∧ (∀ b ob, Stands L b ob → ¬ (0 < r.c ∧ b = r.b) → Stands L' b ob) ∧
   Sub l [(7, x.v), (6, .int .i64 (i : Nat)), (5, .slice ls.A i ls.c), (0, .slice (some ⟨bl, ol, none⟩) rs.length cl)]) ?_ ?_
  ·refine ggo ?_
   refine g_loop (ι := Nat × HL × Rg) (fun s => [(8, .int .i64 (s.1 : Nat)), (7, s.2.2.v), (6, .int .i64 (i : Nat)), (5, .slice ls.A i ls.c), (0, .slice (some ⟨bl, ol, none⟩) rs.length cl)]) (fun s => s.2.1)
    (fun s => s.1 ≤ 80 ∧ s.2.2.ok s.2.1 ∧ s.2.2.m = r.m + s.1 ∧ Mk s.2.1 s.2.2 i ∧ ((s.2.2.b = r.b ∧ s.2.2.o = r.o ∧ s.2.2.c = r.c) ∨ ¬ Old L s.2.2.b) ∧ (∀ b k, Room L b k → Room s.2.1 b k) ∧ (∀ b, Old L b → Old s.2.1 b) ∧ (∀ b j v, Has L b j v → ¬ (0 < r.c ∧ b = r.b ∧ r.o + r.m ≤ j ∧ j < r.o + r.c) → Has s.2.1 b j v) ∧ (∀ b ob, Stands L b ob → ¬ (0 < r.c ∧ b = r.b) → Stands s.2.1 b ob)) (fun s => 80 - s.1) (0, L, r)
    ⟨Nat.zero_le _, hrok, rfl, hM i r hri, .inl ⟨rfl, rfl, rfl⟩, fun _ _ h => h, fun _ h => h, fun _ _ _ h _ => h, fun _ _ h _ => h⟩ ⟨rfl, rfl, rfl, rfl, rfl, trivial⟩ (fun _ h => h) ?_
   rintro ⟨k, L', x⟩ ⟨k1, xok, xm, xk, xw, xr, xo, xa, xs⟩
   simp only at k1 xok xm xk xw xr xo xa xs
   dsimp only
   refine ggo ?_
   by_cases c2 : k < 80
   rotate_left
   ·refine gn (v := .bool false) rfl rfl rfl (ov_int rfl rfl (by rw [bin_lss, decide_eq_false (by omega)])) ?_
    refine ggo ?_
    exact g_exit ⟨x, xok, by omega, xk, xw, xr, xo, xa, xs, ⟨rfl, rfl, rfl, rfl, trivial⟩⟩
   refine gn (v := .bool true) rfl rfl rfl (ov_int rfl rfl (by rw [bin_lss, decide_eq_true (by omega)])) ?_
   refine ggo ?_
   refine gn rfl rfl rfl (ov_conv rfl) ?_
   refine gl_w (want_n rfl) (ef_bl rfl rfl rfl (.cons rfl inferInstance .nil) rfl ?_); intro b1
   have xle := xok.le
   refine gl_ap1 (f := fun _ => mk i) (v := mk i) (want_n rfl) rfl rfl rfl rfl xle (fun h0 => ⟨x.b, x.o, (xok.at_ h0).1, (xok.at_ h0).2.more, fun t ht => (xk t ht).more⟩) (rs_loc (k := 1) rfl) rfl (fun _ _ => rfl) (by omega) (by omega) ?_
   intro L2 b o c' h
   refine ggo ?_
   have hspot : ∀ b' j v, Has L b' j v → ¬ (0 < r.c ∧ b' = r.b ∧ r.o + r.m ≤ j ∧ j < r.o + r.c) → (b' ≠ b ∨ j ≠ o + x.m) := by
    intro b' j v hv hn
    by_cases e : b' = b ∧ j = o + x.m
    ·obtain ⟨rfl, rfl⟩ := e
     exfalso
     rcases h.which with ⟨hA, hc, hlt⟩ | ⟨_, hno⟩
     ·have h2 := (xok.at_ (by omega)).1
      rw [hA] at h2
      simp only [Option.some.injEq, Addr.mk.injEq, and_true] at h2
      obtain ⟨rfl, rfl⟩ := h2
      rcases xw with ⟨w1, w2, w3⟩ | w
      ·exact hn ⟨by omega, w1, by omega, by omega⟩
      ·exact w hv.old
     ·exact hno (xo _ hv.old).more
    ·omega
   have hspot2 : ∀ b' ob, Stands L b' ob → ¬ (0 < r.c ∧ b' = r.b) → b' ≠ b := by
    intro b' ob hv hn e
    subst e
    rcases h.which with ⟨hA, hc, hlt⟩ | ⟨_, hno⟩
    ·have h2 := (xok.at_ (by omega)).1
     rw [hA] at h2
     simp only [Option.some.injEq, Addr.mk.injEq, and_true] at h2
     obtain ⟨rfl, rfl⟩ := h2
     rcases xw with ⟨w1, w2, w3⟩ | w
     ·exact hn ⟨by omega, w1⟩
     ·exact w hv.old
    ·exact hno (xo _ hv.old).more
   refine ⟨(k + 1, L2, ⟨some ⟨b, o, none⟩, b, o, x.m + 1, c'⟩), ⟨c2, ⟨h.cap, fun _ => ⟨rfl, h.room⟩⟩, by simp only; omega, fun t ht => ?_, ?_, fun b' k' h' => h.rooms _ _ (xr _ _ h').more, fun b' h' => h.olds _ (xo _ h').more, fun b' j v hv hn => h.keep _ _ _ (hspot b' j v hv hn) (xa _ _ _ hv hn).more, fun b' ob hv hn => h.objs _ _ (hspot2 b' ob hv hn) (xs _ _ hv hn).more⟩, by simp only; omega, ⟨?_, rfl, rfl, rfl, rfl, trivial⟩, fun _ h => h⟩
   ·simp only at ht ⊢
    by_cases e : t = x.m
    ·subst e; exact h.last
    ·exact h.rows t (by omega)
   ·simp only
    rcases h.which with ⟨hA, hc, hlt⟩ | ⟨_, hno⟩
    ·have h2 := (xok.at_ (by omega)).1
     rw [hA] at h2
     simp only [Option.some.injEq, Addr.mk.injEq, and_true] at h2
     obtain ⟨rfl, rfl⟩ := h2
     rw [hc]
     exact xw
    ·exact .inr fun ho => hno (xo _ ho).more
   ·show some (Value.int .i64 (IntKind.i64.wrap ((k : Int) + 1))) = _
    rw [IntWalk.i64_in _ (by omega)]; rfl
  rintro l L' ⟨x, xok, xm, xk, xw, xr, xo, xa, xs, hsub⟩
  have hK' : Kp L1 L' rs := ⟨fun b ob hs hn => xs b ob (hK.obj b ob hs hn) fun h => hn r hmem h.1 h.2.symm, fun b hb => xo b (hK.old b hb)⟩
  refine g_sub hsub ?_
  have xle := xok.le
  have hI' : ApIn L' rs bl ol := ⟨fun t r' hr' => xa _ _ _ (hI.hdr t r' hr') fun hn => hI.ne r hmem hn.1 hn.2.1.symm, fun r' hr' => ⟨(hI.ok r' hr').le, fun h0 => ⟨((hI.ok r' hr').at_ h0).1, xr _ _ ((hI.ok r' hr').at_ h0).2⟩⟩, hI.ne, hI.sep, hI.few, hI.short⟩
  have hM' : ∀ j r', rs[j]? = some r' → Mk L' r' j := fun j r' hr' t ht => xa _ _ _ (hM j r' hr' t ht) fun hn => by
   have hle' := (hI.ok r' (List.mem_of_getElem? hr')).le
   by_cases e : j = i
   ·subst e
    obtain rfl := Option.some.inj (hr'.symm.trans hri)
    omega
   ·have hs := hI.sep j i r' r hr' hri e
    unfold Rg.sep at hs
    omega
  have lsv' : ∀ t, t < i → Has L' ls.b (ls.o + t) (R t).v := fun t ht => xa _ _ _ (lsv t ht) fun hn => by
   have := lsok.le
   exact lsnew (by omega) (hn.2.1 ▸ hor r hmem hn.1)
  have lsok' : ls.ok L' := ⟨lsok.le, fun h0 => ⟨(lsok.at_ h0).1, xr _ _ (lsok.at_ h0).2⟩⟩
  have rk' : ∀ j, j < i → Mk L' (R j) j := fun j hj t ht => xa _ _ _ ((rk j hj).1 t ht) fun hn => by
   obtain ⟨_, _, g3, _⟩ := rk j hj
   have hj' : j < rs.length := by omega
   have hrj : rs[j]? = some rs[j] := List.getElem?_eq_getElem hj'
   rcases (rm j _ hj hrj).2 with ⟨g5, g6, g7, g8⟩ | g5
   ·have hs := hI.sep j i _ r hrj hri (by omega)
    unfold Rg.sep at hs
    omega
   ·exact g5 (hn.2.1 ▸ hor r hmem hn.1)
  have xnl : 0 < ls.c → x.b ≠ ls.b := fun h0 e => by
   rcases xw with ⟨w1, w2, w3⟩ | w
   ·exact lsnew h0 (by rw [← e, w1]; exact hor r hmem (by omega))
   ·exact w (by rw [e]; exact (lsok.at_ h0).2.old)
  clear hM lsv hI
  refine ggo ?_
  refine gl_w (want_n rfl) (ef_bl rfl rfl rfl (.cons rfl inferInstance .nil) rfl ?_); intro b2
  have lsle := lsok'.le
  refine gl_ap1 (f := fun t => (R t).v) (v := x.v) (want_n rfl) rfl rfl rfl rfl (by omega) (fun h0 => ⟨ls.b, ls.o, (lsok'.at_ h0).1, (lsok'.at_ h0).2.more, fun t ht => (lsv' t ht).more⟩) (rs_loc (k := 1) rfl) rfl (fun _ _ => rfl) (by omega) (by omega) ?_
  intro L2 b o c' h
  refine ggo ?_
  have pres : ∀ b' j u, Has L' b' j u → (0 < ls.c → b' ≠ ls.b) → Has L2 b' j u := fun b' j u hv hb => h.keep _ _ _ (by
   rcases h.which with ⟨hA, hc, hlt⟩ | ⟨_, hno⟩
   ·have h2 := (lsok'.at_ (by omega)).1
    rw [hA] at h2
    simp only [Option.some.injEq, Addr.mk.injEq, and_true] at h2
    exact .inl (by rw [h2.1]; exact hb (by omega))
   ·exact .inl fun e => hno (e ▸ hv.old.more)) hv.more
  have press : ∀ b' ob, Stands L1 b' ob → Stands L' b' ob → Stands L2 b' ob := fun b' ob h1 hv => h.objs _ _ (by
   rcases h.which with ⟨hA, hc, hlt⟩ | ⟨_, hno⟩
   ·have h2 := (lsok'.at_ (by omega)).1
    rw [hA] at h2
    simp only [Option.some.injEq, Addr.mk.injEq, and_true] at h2
    exact fun e => lsnew (by omega) (by rw [← h2.1, ← e]; exact h1.old)
   ·exact fun e => hno (e ▸ hv.old.more)) hv.more
  have newb : ∀ b', Old L' b' → (0 < ls.c → b' ≠ ls.b) → b' ≠ b := fun b' ho hb e => by
   rcases h.which with ⟨hA, hc, hlt⟩ | ⟨_, hno⟩
   ·have h2 := (lsok'.at_ (by omega)).1
    rw [hA] at h2
    simp only [Option.some.injEq, Addr.mk.injEq, and_true] at h2
    exact hb (by omega) (by rw [e, h2.1])
   ·exact hno (e ▸ ho.more)
  have xold : Old L' x.b := (xok.at_ (by omega)).2.old
  refine ⟨⟨i + 1, L2, ⟨some ⟨b, o, none⟩, b, o, i + 1, c'⟩, fun t => if t = i then x else R t⟩, ⟨c1, ⟨fun b' ob h1 hn => press b' ob h1 (hK'.obj b' ob h1 hn), fun b' hb => h.olds b' (hK'.old b' hb).more⟩, ?_, ?_, ?_, rfl, ⟨h.cap, fun _ => ⟨rfl, h.room⟩⟩, ?_, ?_, ?_, ?_⟩, by simp only; omega, ⟨?_, rfl, rfl, trivial⟩, fun _ h => h⟩
  ·exact ⟨fun t r' hr' => pres _ _ _ (hI'.hdr t r' hr') fun h0 e => lsnew h0 (e ▸ hobl r hmem), fun r' hr' => ⟨(hI'.ok r' hr').le, fun h0 => ⟨((hI'.ok r' hr').at_ h0).1, h.rooms _ _ ((hI'.ok r' hr').at_ h0).2.more⟩⟩, hI'.ne, hI'.sep, hI'.few, hI'.short⟩
  ·intro j r' hr' t ht
   have hle' := (hI'.ok r' (List.mem_of_getElem? hr')).le
   exact pres _ _ _ (hM' j r' hr' t ht) fun h0 e => lsnew h0 (e ▸ hor r' (List.mem_of_getElem? hr') (by omega))
  ·intro b' hb'
   exact h.olds _ (xo _ (holds _ hb')).more
  ·intro _ ho
   simp only at ho
   rcases h.which with ⟨hA, hc, hlt⟩ | ⟨_, hno⟩
   ·have h2 := (lsok'.at_ (by omega)).1
    rw [hA] at h2
    simp only [Option.some.injEq, Addr.mk.injEq, and_true] at h2
    exact lsnew (by omega) (h2.1 ▸ ho)
   ·exact hno (xo _ (holds _ ho)).more
  ·intro t ht
   simp only at ht ⊢
   by_cases e : t = i
   ·subst e; rw [if_pos rfl]; exact h.last
   ·rw [if_neg e]; exact h.rows t (by omega)
  ·intro j hj
   simp only at hj ⊢
   by_cases e : j = i
   ·subst e
    rw [if_pos rfl]
    exact ⟨fun t ht => pres _ _ _ (xk t ht) xnl, (xok.at_ (by omega)).1, xle, fun _ => newb _ xold xnl, h.olds _ xold.more⟩
   ·rw [if_neg e]
    obtain ⟨g1, g2, g3, g4, g5⟩ := rk j (by omega)
    exact ⟨fun t ht => pres _ _ _ (rk' j (by omega) t ht) g4, g2, g3, fun _ => newb _ (xo _ g5) g4, h.olds _ (xo _ g5).more⟩
  ·intro j r' hj hr'
   simp only at hj ⊢
   by_cases e : j = i
   ·subst e
    rw [if_pos rfl]
    obtain rfl := Option.some.inj (hr'.symm.trans hri)
    refine ⟨xm, ?_⟩
    rcases xw with ⟨w1, w2, w3⟩ | w
    ·exact .inl ⟨by omega, w1, w2, w3⟩
    ·exact .inr fun ho => w (holds _ ho)
   ·rw [if_neg e]
    exact rm j r' (by omega) hr'
  ·show some (Value.int .i64 (IntKind.i64.wrap ((i : Int) + 1))) = _
   rw [IntWalk.i64_in _ (by omega)]; rfl
 clear hM hI hobl hor
 rintro l L2 ⟨⟨i, L, ls, R⟩, ⟨_, hK, hI, hM, _, lsm, lsok, _, lsv, rk, rm⟩, hn, rfl, hsub⟩
 simp only at hK hI hM lsm lsok lsv rk rm hn hsub ⊢
 subst hn
 refine g_sub hsub ?_
 refine ggo ?_
 have hfew := hI.few
 have hlsA : 0 < rs.length → ls.A = some ⟨ls.b, ls.o, none⟩ := fun h0 => (lsok.at_ (by have := lsok.le; omega)).1
 refine g_cut (fun l L' => L' = L2) ?_ ?_
 ·refine ggo ?_
  refine g_loop (ι := Nat) (fun i => [(9, .int .i64 (i : Nat)), (5, .slice ls.A rs.length ls.c), (0, .slice (some ⟨bl, ol, none⟩) rs.length cl)]) (fun _ => L2) (fun i => i ≤ rs.length) (fun i => rs.length - i) 0 (Nat.zero_le _) ⟨rfl, rfl, rfl, trivial⟩ (fun _ h => h) ?_
  intro i hi
  refine ggo ?_
  by_cases c1 : i < rs.length
  rotate_left
  ·refine gn (v := .bool false) rfl rfl rfl (ov_int rfl rfl (by rw [bin_lss, decide_eq_false (by omega)])) ?_
   refine ggo ?_
   exact g_exit rfl
  refine gn (v := .bool true) rfl rfl rfl (ov_int rfl rfl (by rw [bin_lss, decide_eq_true (by omega)])) ?_
  refine ggo ?_
  have hri : rs[i]? = some rs[i] := List.getElem?_eq_getElem c1
  have hmem := List.getElem_mem c1
  generalize rs[i] = r at hri hmem
  have hsh := hI.short r hmem
  have hrok := hI.ok r hmem
  have hlv := lsv i c1
  obtain ⟨hk, hRA, hRle, _, _⟩ := rk i c1
  have hRm := (rm i r c1 hri).1
  have hMr := hM i r hri
  rw [hlsA (by omega)]
  generalize R i = x at *
  refine g_cut (fun l L' => L' = L2 ∧ Sub l [(9, .int .i64 (i : Nat)), (5, .slice (some ⟨ls.b, ls.o, none⟩) rs.length ls.c), (0, .slice (some ⟨bl, ol, none⟩) rs.length cl)]) ?_ ?_
  ·refine ggo ?_
   refine g_loop (ι := Nat) (fun j => [(10, .int .i64 (j : Nat)), (9, .int .i64 (i : Nat)), (5, .slice (some ⟨ls.b, ls.o, none⟩) rs.length ls.c), (0, .slice (some ⟨bl, ol, none⟩) rs.length cl)]) (fun _ => L2) (fun j => j ≤ x.m) (fun j => x.m - j) 0 (Nat.zero_le _) ⟨rfl, rfl, rfl, rfl, trivial⟩ (fun _ h => h) ?_
   intro j hj
   refine ggo ?_
   refine gn rfl rfl rfl (ov_iab rfl rfl rfl c1) ?_
   refine gn rfl rfl rfl (ov_ldH rfl hlv) ?_
   simp only [Rg.v, hRA]
   refine ggo ?_
   by_cases c2 : j < x.m
   rotate_left
   ·refine gn (v := .bool false) rfl rfl rfl (ov_int rfl rfl (by rw [bin_lss, decide_eq_false (by omega)])) ?_
    refine ggo ?_
    exact g_exit ⟨rfl, ⟨rfl, rfl, rfl, trivial⟩⟩
   refine gn (v := .bool true) rfl rfl rfl (ov_int rfl rfl (by rw [bin_lss, decide_eq_true (by omega)])) ?_
   refine ggo ?_
   refine gn rfl rfl rfl (ov_iab rfl rfl rfl c1) ?_
   refine gn rfl rfl rfl (ov_ldH rfl hlv) ?_
   simp only [Rg.v, hRA]
   refine ggo ?_
   refine gn rfl rfl rfl (ov_iab rfl rfl rfl c2) ?_
   refine gn rfl rfl rfl (ov_ldH rfl (hk j c2)) ?_
   refine ggo ?_
   refine gn rfl rfl rfl (ov_conv rfl) ?_
   refine gn (v := .bool false) rfl rfl rfl (ov_int rfl rfl (by rw [bin_neq, bne_eq_false_iff_eq.2 (rfl)])) ?_
   refine ggo ?_
   refine gg rfl rfl rfl rfl rfl (ov_iab rfl rfl rfl c1) ?_
   refine gg rfl rfl rfl rfl rfl (ov_ldH rfl (hI.hdr i r hri)) ?_
   simp only [Rg.v]
   refine ggo ?_
   by_cases c3 : j < r.m
   ·refine gg (v := .bool true) rfl rfl rfl rfl rfl (ov_int rfl rfl (by rw [bin_lss, decide_eq_true (by omega)])) ?_
    refine ggo ?_
    obtain ⟨hA, _⟩ := hrok.at_ (by have := hrok.le; omega)
    refine gg rfl rfl rfl rfl rfl (ov_iab rfl rfl rfl c1) ?_
    refine gg rfl rfl rfl rfl rfl (ov_ldH rfl (hI.hdr i r hri)) ?_
    simp only [Rg.v, hA]
    refine ggo ?_
    refine gg rfl rfl rfl rfl rfl (ov_iab rfl rfl rfl c3) ?_
    refine gg rfl rfl rfl rfl rfl (ov_ldH rfl (hMr j c3)) ?_
    refine ggo ?_
    refine gg rfl rfl rfl rfl rfl (ov_conv rfl) ?_
    refine gg (v := .bool false) rfl rfl rfl rfl rfl (ov_int rfl rfl (by rw [bin_neq, bne_eq_false_iff_eq.2 (rfl)])) ?_
    refine ggo ?_
    refine ⟨j + 1, c2, by omega, ⟨?_, rfl, rfl, rfl, trivial⟩, fun _ h => h⟩
    show some (Value.int .i64 (IntKind.i64.wrap ((j : Int) + 1))) = _
    rw [IntWalk.i64_in _ (by omega)]; rfl
   ·refine gg (v := .bool false) rfl rfl rfl rfl rfl (ov_int rfl rfl (by rw [bin_lss, decide_eq_false (by omega)])) ?_
    refine ggo ?_
    refine ⟨j + 1, c2, by omega, ⟨?_, rfl, rfl, rfl, trivial⟩, fun _ h => h⟩
    show some (Value.int .i64 (IntKind.i64.wrap ((j : Int) + 1))) = _
    rw [IntWalk.i64_in _ (by omega)]; rfl
  rintro l L' ⟨rfl, hsub⟩
  refine g_sub hsub ?_
  refine ggo ?_
  refine ⟨i + 1, c1, by omega, ⟨?_, rfl, rfl, trivial⟩, fun _ h => h⟩
  show some (Value.int .i64 (IntKind.i64.wrap ((i : Int) + 1))) = _
  rw [IntWalk.i64_in _ (by omega)]; rfl
 rintro l L' rfl
 refine g_sub (k := []) trivial ?_
 refine ggo ?_
 exact g_ret ⟨_, res_1 rfl, rfl, ⟨fun b ob hs hn => hK.obj b ob (hK1.obj b ob hs hn) hn, fun b hb => hK.old b (hK1.old b hb)⟩⟩
/- Vae: what the machine is told of Apart, and that it is so. By this project. -/
noncomputable def rowP (hp : Hp) (a : Nat) (v : V) : Option (Option Nat) := match v with
 | .sl none n c op => if n = 0 ∧ c = 0 then some none else none
 | .sl (some (b, o)) m c op => if o = 0 ∧ c = m ∧ m ≤ 1099511627776 ∧ b ≠ a then (match hp.getW b with
  | some (.cells C T oo false) => if C.length = m ∧ (op = true → oo = some 1) then some (some b) else none
  | _ => none) else none
 | _ => none
noncomputable def voids (hp : Hp) (bs : List Nat) : Hp := bs.foldl (fun hp b => hp.put b none) hp
noncomputable def apExt (na : Nat) : CallF := fun f args hp => if f = na then (match args with
 | [.sl (some (a, o)) n c op] => if o = 0 ∧ c = n ∧ n ≤ 1073741824 then (match hp.getW a with
  | some (.cells cs T oo false) => if cs.length = n ∧ (op = true → oo = some 1) then (mapO (rowP hp a) cs).bind fun bs => if (bs.filterMap id).Nodup then some (.v (.b true), voids hp (bs.filterMap id)) else none else none
  | _ => none) else none
 | _ => none) else none
theorem voids_get : ∀ (bs : List Nat) (hp : Hp) (x : Nat), (voids hp bs).t.get x = if x ∈ bs then none else hp.t.get x
 | [], hp, x => by simp [voids]
 | b :: r, hp, x => by
  have ih := voids_get r (hp.put b none) x
  have e : (hp.put b none).t.get x = if x = b then none else hp.t.get x := Tr.get_set _ _ _
  show (voids (hp.put b none) r).t.get x = _
  rw [ih, e]
  by_cases h1 : x ∈ r
  ·simp [h1]
  ·by_cases h2 : x = b
   ·simp [h1, h2]
   ·simp [h1, h2]
theorem voids_nx : ∀ (bs : List Nat) (hp : Hp), (voids hp bs).nx = hp.nx
 | [], hp => rfl
 | b :: r, hp => voids_nx r (hp.put b none)
theorem voids_ext : ∀ (bs : List Nat) (hp : Hp), Ext hp (voids hp bs)
 | [], hp => ext_refl hp
 | b :: r, hp => (ext_put hp b none).trans (voids_ext r (hp.put b none))
theorem voids_log : ∀ (bs : List Nat) (hp : Hp), (voids hp bs).log = bs.reverse ++ hp.log
 | [], hp => rfl
 | b :: r, hp => by
  show (voids (hp.put b none) r).log = _
  rw [voids_log r]
  show r.reverse ++ (b :: hp.log) = _
  simp
structure RgOk (E : Env) (w : World) (hp : Hp) (v : V) (q : Option Nat) (g : Rg) : Prop where
 ren : ren E v = some g.v
 ok : g.ok (blocksL w)
 short : g.m ≤ 1099511627776
 who : match q with
  | none => g.c = 0
  | some b => ∃ o e, hp.t.get b = some o ∧ roB b = false ∧ E b = some e ∧ e.1 = g.b
theorem row_ok {E : Env} {w : World} {hp : Hp} (hR : Rep E hp.t w) {a : Nat} {v : V} {q : Option Nat} (h : rowP hp a v = some q) : (∃ g, RgOk E w hp v q g) ∧ ∀ b, q = some b → b ≠ a := by
 unfold rowP at h
 split at h
 ·rename_i n c op
  split at h
  ·rename_i h0
   obtain ⟨rfl, rfl⟩ := h0
   simp only [Option.some.injEq] at h
   subst h
   exact ⟨⟨⟨none, 0, 0, 0, 0⟩, rfl, ⟨Nat.le_refl _, fun h => absurd h (Nat.lt_irrefl 0)⟩, Nat.zero_le _, rfl⟩, fun b e => by simp at e⟩
  ·simp at h
 ·rename_i b o m c op
  split at h
  ·rename_i h0
   obtain ⟨rfl, rfl, hm, hba⟩ := h0
   split at h
   ·rename_i C T oo hg
    split at h
    ·rename_i h1
     obtain ⟨hC, hop⟩ := h1
     simp only [Option.some.injEq] at h
     subst h
     obtain ⟨hg, hro⟩ := getW_some hg
     obtain ⟨blk, ex, pre, l, sp, fz, g1, g2, g3, g4, g5, g6, g7, g8⟩ := rep_cells hR hg
     obtain rfl := g7 rfl
     have hl := renL_len g3
     refine ⟨⟨⟨some ⟨blk, pre.length, none⟩, blk, pre.length, c, if op then c + ex else c⟩, ?_, ⟨?_, fun h => ⟨rfl, ?_⟩⟩, hm, _, _, hg, hro, g1, rfl⟩, fun b' e => by simp at e; subst e; exact hba⟩
     ·rw [ren_sl_mk g1 (wkB_ro hro)]
      rfl
     ·show c ≤ if op then c + ex else c
      split <;> omega
     ·refine ⟨blk, pre ++ l ++ sp, T, ?_, ?_⟩
      ·rw [blocksL_at, g2]; rfl
      ·show pre.length + (if op then c + ex else c) ≤ _
       simp only [List.length_append]
       cases op with
       | false => simp; omega
       | true =>
        have := g6 1 (hop rfl)
        simp
        omega
    ·simp at h
   ·simp at h
  ·simp at h
 ·simp at h
theorem rows_ok {E : Env} {w : World} {hp : Hp} (hR : Rep E hp.t w) {a : Nat} : ∀ {cs : List V} {qs : List (Option Nat)}, mapO (rowP hp a) cs = some qs → ∃ gs : List Rg, gs.length = cs.length ∧ qs.length = cs.length ∧ ∀ (i : Nat) (v : V) (q : Option Nat) (g : Rg), cs[i]? = some v → qs[i]? = some q → gs[i]? = some g → RgOk E w hp v q g ∧ ∀ b, q = some b → b ≠ a
 | [], qs, h => by
  simp [mapO_nil] at h
  subst h
  exact ⟨[], rfl, rfl, fun i v q g h => by simp at h⟩
 | v :: r, qs, h => by
  rw [mapO_cons] at h
  cases hv : rowP hp a v with
  | none => rw [hv] at h; simp at h
  | some q =>
   rw [hv] at h
   cases hr : mapO (rowP hp a) r with
   | none => rw [hr] at h; simp at h
   | some t =>
    rw [hr] at h
    simp at h
    subst h
    obtain ⟨⟨g, hg⟩, hb⟩ := row_ok hR hv
    obtain ⟨gs, h1, h2, h3⟩ := rows_ok hR hr
    refine ⟨g :: gs, by simp [h1], by simp [h2], fun i v' q' g' hv' hq' hg' => ?_⟩
    cases i with
    | zero =>
     simp at hv' hq' hg'
     subst hv' hq' hg'
     exact ⟨hg, hb⟩
    | succ i => exact h3 i v' q' g' (by simpa using hv') (by simpa using hq') (by simpa using hg')
theorem fm_mem {qs : List (Option Nat)} {b : Nat} : b ∈ qs.filterMap id ↔ some b ∈ qs := by simp
theorem fm_one : ∀ {qs : List (Option Nat)} {i j b : Nat}, (qs.filterMap id).Nodup → qs[i]? = some (some b) → qs[j]? = some (some b) → i = j
 | [], i, j, b, _, h, _ => by simp at h
 | none :: r, i, j, b, hn, hi, hj => by
  cases i with
  | zero => simp at hi
  | succ i =>
   cases j with
   | zero => simp at hj
   | succ j => exact congrArg (· + 1) (fm_one (by simpa using hn) (by simpa using hi) (by simpa using hj))
 | some c :: r, i, j, b, hn, hi, hj => by
  have e : (some c :: r).filterMap id = c :: r.filterMap id := rfl
  rw [e, List.nodup_cons] at hn
  cases i with
  | zero =>
   simp at hi
   subst hi
   cases j with
   | zero => rfl
   | succ j => exact absurd (fm_mem.2 (List.mem_of_getElem? (show r[j]? = some (some c) by simpa using hj))) hn.1
  | succ i =>
   cases j with
   | zero =>
    simp at hj
    subst hj
    exact absurd (fm_mem.2 (List.mem_of_getElem? (show r[i]? = some (some c) by simpa using hi))) hn.1
   | succ j => exact congrArg (· + 1) (fm_one hn.2 (by simpa using hi) (by simpa using hj))
theorem renL_at {E : Env} : ∀ {vs : List V} {l : List Value} {i : Nat} {v : V}, renL E vs = some l → vs[i]? = some v → ∃ x, l[i]? = some x ∧ ren E v = some x
 | [], l, i, v, _, hv => by simp at hv
 | u :: r, l, i, v, h, hv => by
  obtain ⟨x, t, h1, h2, rfl⟩ := renL_cons h
  cases i with
  | zero =>
   simp at hv
   subst hv
   exact ⟨x, rfl, h1⟩
  | succ i =>
   obtain ⟨y, h3, h4⟩ := renL_at (i := i) h2 (by simpa using hv)
   exact ⟨y, by simpa using h3, h4⟩
set_option maxHeartbeats 1000000 in
theorem apExt_ok : CallOk Try.prog (apExt 15) := by
 intro f args hp r hp' h
 unfold apExt at h
 split at h
 rotate_left
 ·simp at h
 rename_i hf
 subst hf
 split at h
 rotate_left
 ·simp at h
 rename_i a o n c op
 split at h
 rotate_left
 ·simp at h
 rename_i h0
 obtain ⟨rfl, rfl, hn⟩ := h0
 split at h
 rotate_left
 ·simp at h
 rename_i cs T oo hg
 split at h
 rotate_left
 ·simp at h
 rename_i hcl
 obtain ⟨hcl, hop⟩ := hcl
 simp only [Option.bind_eq_some_iff] at h
 obtain ⟨qs, hq, h⟩ := h
 split at h
 rotate_left
 ·simp at h
 rename_i hnd
 simp only [Option.some.injEq, Prod.mk.injEq] at h
 obtain ⟨rfl, rfl⟩ := h
 obtain ⟨hg, hro⟩ := getW_some hg
 refine ⟨voids_ext _ _, by kernel_rfl, fun E w vargs hR hG hA hF => ?_⟩
 obtain ⟨gs, hgl, hql, hgs⟩ := rows_ok hR hq
 obtain ⟨blk, ex, pre, l, sp, fz, g1, g2, g3, g4, g5, g6, g7, g8⟩ := rep_cells hR hg
 obtain rfl := g7 rfl
 have hvargs : vargs = [.slice (some ⟨blk, pre.length, none⟩) gs.length (if op then c + ex else c)] := by
  obtain ⟨x, t, h1, h2, rfl⟩ := renL_cons hA
  rw [ren_sl_mk g1 (wkB_ro hro)] at h1
  simp only [Option.some.injEq] at h1
  simp [renL] at h2
  rw [← h1, ← h2, hgl, hcl]
  rfl
 subst hvargs
 have all : ∀ (i : Nat) (g : Rg), gs[i]? = some g → ∃ v q, cs[i]? = some v ∧ qs[i]? = some q ∧ RgOk E w hp v q g ∧ ∀ b, q = some b → b ≠ a := fun i g hi => by
  have hlt := (List.getElem?_eq_some_iff.1 hi).1
  have e1 : cs[i]? = some (cs[i]'(by omega)) := List.getElem?_eq_getElem (by omega)
  have e2 : qs[i]? = some (qs[i]'(by omega)) := List.getElem?_eq_getElem (by omega)
  exact ⟨_, _, e1, e2, hgs i _ _ g e1 e2 hi⟩
 -- a block that a row has
 have who : ∀ (i : Nat) (g : Rg), gs[i]? = some g → 0 < g.c → ∃ b o e, qs[i]? = some (some b) ∧ hp.t.get b = some o ∧ roB b = false ∧ E b = some e ∧ e.1 = g.b ∧ b ≠ a := fun i g hi h0 => by
  obtain ⟨v, q, _, hq2, hk, hba⟩ := all i g hi
  have hw := hk.who
  cases q with
  | none =>
   have hw : g.c = 0 := hw
   omega
  | some b =>
   obtain ⟨o, e, k1, k2, k3, k4⟩ := hw
   exact ⟨b, o, e, hq2, k1, k2, k3, k4, hba b rfl⟩
 have hin : ApIn (blocksL w) gs blk pre.length := by
  refine ⟨fun t g ht => ?_, fun g hgm => ?_, fun g hgm h0 => ?_, fun i j g g' hi hj hij => ?_, by omega, fun g hgm => ?_⟩
  ·obtain ⟨v, q, hv, _, hk, _⟩ := all t g ht
   obtain ⟨x, hx, hx2⟩ := renL_at g3 hv
   rw [hk.ren] at hx2
   obtain rfl := Option.some.inj hx2
   have hlt := (List.getElem?_eq_some_iff.1 hx).1
   refine ⟨blk, pre ++ l ++ sp, T, ?_, ?_⟩
   ·rw [blocksL_at, g2]; rfl
   ·rw [List.append_assoc, List.getElem?_append_right (by omega), Nat.add_sub_cancel_left, List.getElem?_append_left hlt]
    exact hx
  ·obtain ⟨i, hi⟩ := List.getElem?_of_mem hgm
   obtain ⟨v, q, _, _, hk, _⟩ := all i g hi
   exact hk.ok
  ·obtain ⟨i, hi⟩ := List.getElem?_of_mem hgm
   obtain ⟨b, o, e, _, k1, k2, k3, k4, k5⟩ := who i g hi h0
   intro hc
   rcases hR.inj b a _ _ _ _ k1 hg k3 g1 (by rw [k4, hc]) with q | q
   ·exact k5 q
   ·rw [k2] at q; simp at q
  ·by_cases c1 : g.c = 0
   ·exact .inl c1
   by_cases c2 : g'.c = 0
   ·exact .inr (.inl c2)
   obtain ⟨b, o, e, k0, k1, k2, k3, k4, k5⟩ := who i g hi (by omega)
   obtain ⟨b', o', e', q0, q1, q2, q3, q4, q5⟩ := who j g' hj (by omega)
   refine .inr (.inr (.inl fun hc => ?_))
   rcases hR.inj b b' _ _ _ _ k1 q1 k3 q3 (by rw [k4, q4, hc]) with q | q
   ·subst q
    exact hij (fm_one hnd k0 q0)
   ·rw [k2] at q; simp at q
  ·obtain ⟨i, hi⟩ := List.getElem?_of_mem hgm
   obtain ⟨v, q, _, _, hk, _⟩ := all i g hi
   exact hk.short
 refine (Apart_cls { w with heap := #[] } (blocksL w) gs blk pre.length (if op then c + ex else c) hin w (blocksL_st w)).mono ?_
 rintro e w' ⟨v, N, rfl, hs, rfl, hK⟩
 have hkeep : ∀ k, k < w.heap.size → (∀ g ∈ gs, 0 < g.c → g.b ≠ k) → w'.heap[k]? = w.heap[k]? := fun k hk hne => by
  have h1 : Stands (blocksL w) k (w.heap[k]'hk) := ⟨k, by rw [blocksL_at, Array.getElem?_eq_getElem hk]; rfl⟩
  obtain ⟨j, hj⟩ := hK.obj k _ h1 hne
  rw [(hs.has j k _ hj).1, Array.getElem?_eq_getElem hk]
 have hsz : w.heap.size ≤ w'.heap.size := by
  rcases Nat.eq_zero_or_pos w.heap.size with h | h
  ·omega
  ·have h1 : Old (blocksL w) (w.heap.size - 1) := ⟨w.heap.size - 1, w.heap[w.heap.size - 1]'(by omega), by rw [blocksL_at, Array.getElem?_eq_getElem (by omega)]; rfl⟩
   obtain ⟨j, ob, hj⟩ := hK.old _ h1
   have := lt_of_heap (hs.has j _ _ hj).1
   omega
 have hget : ∀ x o, (voids hp (qs.filterMap id)).t.get x = some o → x ∉ qs.filterMap id ∧ hp.t.get x = some o := fun x o hx => by
  rw [voids_get] at hx
  split at hx
  ·simp at hx
  ·rename_i hni
   exact ⟨hni, hx⟩
 refine ⟨E, ⟨Env.le_refl E, fun _ _ => rfl, ⟨fun x o hx => ?_, fun x y o o' e e' hx hy => ?_⟩, ⟨hs.below.os, hs.below.tape, hs.below.output, hsz, fun k hk hn2 => ?_, fun x o e hx he hrx => ?_⟩⟩, .bool true, rfl, rfl⟩
 ·obtain ⟨hni, hx⟩ := hget x o hx
  obtain ⟨e, ob, h1, h2, h3⟩ := hR.has x o hx
  refine ⟨e, ob, h1, ?_, h3⟩
  rw [hkeep e.1 (lt_of_heap h2) fun g hgm h0 hc => ?_]
  ·exact h2
  ·obtain ⟨i, hi⟩ := List.getElem?_of_mem hgm
   obtain ⟨b, o2, e2, k0, k1, k2, k3, k4, k5⟩ := who i g hi h0
   rcases hR.inj b x _ _ _ _ k1 hx k3 h1 (by rw [k4, hc]) with q | q
   ·subst q
    exact hni (fm_mem.2 (List.mem_of_getElem? k0))
   ·rw [k2] at q; simp at q
 ·exact hR.inj x y o o' e e' (hget x o hx).2 (hget y o' hy).2
 ·refine hkeep k hk fun g hgm h0 hc => ?_
  obtain ⟨i, hi⟩ := List.getElem?_of_mem hgm
  obtain ⟨b, o2, e2, k0, k1, k2, k3, k4, k5⟩ := who i g hi h0
  exact hn2 b o2 e2 k1 k3 k2 (by rw [k4, hc])
 ·exact .inl ⟨x, o, e, (hget x o hx).2, he, hrx, rfl⟩
/- Ds2: sha's state on the machine: a block taken, bytes written. By this project. -/
noncomputable abbrev kxD : Kx := ⟨vC, apExt 15, extd0⟩
/- Dm1: a block as the document mixes it: turned, words, mixed of cairnref02 on the machine. By this project. -/
/- Dm2: a block as the document mixes it: mixed of cairnref02 on the machine. By this project. -/
attribute [local irreducible] wV
end Go.Proofs.Ytabpegdalmagpaa
/- Ds3: bytes written into a sha state. By this project. -/
set_option maxRecDepth 100000
namespace Go.Proofs.Ytabpegdalmagpaa
open Go.RowKit Go.Extern.Stop
/- Ds4: the sum of a sha state. By this project. -/
theorem StT.ne {cs : List V} {m : List UInt8} {t : Nat} (h : StT cs m t) : cs ≠ [] := fun e => by
 have := h.len
 rw [e] at this
 simp at this
theorem StT.held {cs : List V} {m : List UInt8} {t : Nat} (h : StT cs m t) : cs[72]? = some (.i .i64 ((m.length % 64 : Nat) : Int)) := by
 obtain ⟨rest, hr, rfl⟩ := h
 exact stC_held (absN_len _ _) hr.1
theorem StT.taken {cs : List V} {m : List UInt8} {t : Nat} (h : StT cs m t) : cs[73]? = some (.i .i64 (t : Int)) := by
 obtain ⟨rest, hr, rfl⟩ := h
 exact stC_taken (absN_len _ _) hr.1
/- Ds5: sha's New and Sum. By this project. -/
/- Ds6: mac's New, Write, Code. By this project. -/
/- Ds7: digest's cut, mac's Equal, a book's code. By this project. -/
/- Ds8: what a book has noted: strings by their hashes; a string noted. By this project. -/
structure Grp where
 h : List UInt8
 b : Nat
 ss : List (List UInt8)
structure Nt where
 a : Nat
 s : Nat
 all : List (List UInt8)
 gs : List Grp
abbrev hK (xs : List UInt8) : V := .agg (xs.map byV)
/- Ds9: a string noted. By this project. -/
/- Ds10: a book on the machine: locked, unlocked; Hash. By this project. -/
theorem Fn.drop {K : Kx} {f : Nat} {args : List V} {hp : Hp} {T : List Nat} {R : VR → HV → Prop} (h : Fn K f args hp T fun r N => ∃ G N', N = G ++ N' ∧ R r N') : Fn K f args hp T R := by
 unfold Fn at *
 obtain ⟨r, hp', h1, N, h2, h3, G, N', rfl, h4⟩ := h
 exact ⟨r, hp', h1, N', h2.tail, h3, h4⟩
structure Bk where
 b : Nat
 z : Nat
 bits : Nat
 cb : Nat
 sec : List UInt8
 hd : Nt
 cd : Nt
 fg : Nat
 fs : List (List UInt8 × List UInt8)
/- Ds11: a book's code, Code. By this project. -/
/- Ds12: a book's Accept, Sound, Len. By this project. -/
/- Ds13: a book's Sound, Len. By this project. -/
/- Ds14: a new book. By this project. -/
/- Ds15: a book's Forgeries, where there is none, where there is one. By this project. -/
/- Ds16: the statements' own small functions: Bits, Secret. By this project. -/
section
variable {K : Kx} {hp0 : Bs} {l : VL} {L : HV} {a b : Operand} {t t' : TypeId}
theorem m_remI {p q : Int} (hx : evL l a = some (.i .i64 p)) (hy : evL l b = some (.i .i64 q)) (hq : q ≠ 0) : MVO K hp0 l L (.binOp .rem t a b t') (.i .i64 (p.tmod q)) :=
 mv_int hx hy (by
  have e : intEq q 0 = false := by rw [intEq_iff]; simpa using hq
  simp only [vint, e])
theorem m_remN {p q : Int} {m n : Nat} (hx : evL l a = some (.i .i64 p)) (hy : evL l b = some (.i .i64 q)) [hm : CastN p m] [hn : CastN q n] (hq : 0 < n) : MVO K hp0 l L (.binOp .rem t a b t') (.i .i64 ((m % n : Nat) : Int)) := by
 have := m_remI (K := K) (hp0 := hp0) (L := L) (t := t) (t' := t') hx hy (by rw [hn.h]; omega)
 rw [hm.h, hn.h] at this
 rw [Int.natCast_emod]
 rw [Int.tmod_eq_emod_of_nonneg (by omega)] at this
 exact this
end
/- Dn1: the document's sum of any bytes: Padded, Sum of cairnref02. By this project. -/
theorem u8_bytes : (tiV vC 5).map (·.bytes) = some 1 := by kernel_rfl
theorem u8_one : ∃ te, tiV kxD.C 5 = some te ∧ te.bytes = 1 := by
 obtain ⟨te, h1, h2⟩ := Option.map_eq_some_iff.1 u8_bytes
 exact ⟨te, h1, h2⟩
/- Ds17: what the document fixes of hashes; how many hashes a book knows; the closed part of the statements. By this project. -/
variable {B : Bk} {b bits cb : Nat} {sec : List UInt8} {ha ca : List (List UInt8)} {fs : List (List UInt8 × List UInt8)}
end Go.Proofs.Ytabpegdalmagpaa
/- Dn2: hashes and refs, as the document tells them and as the program does: Hash of cairnref04, Refer and SameRef of cairnref07, Refer of node; the statements' Roomy, AsWas. By this project. -/
set_option maxRecDepth 100000
namespace Go.Proofs.Ytabpegdalmagpaa
open Go.RowKit Go.Extern.Stop
section
variable {K : Kx} {hp0 : Bs} {l : VL} {L : HV} {a b : Operand} {t t' : TypeId}
end
/- Js3: rlp: shortest, head, deeper, may, size. By this project. -/
section
variable {K : Kx} {hp0 : Bs} {l : VL} {L : HV} {a b : Operand} {t t' : TypeId}
theorem m_addB {x y : UInt8} (hx : evL l a = some (byV x)) (hy : evL l b = some (byV y)) : MVO K hp0 l L (.binOp .add t a b t') (byV (x + y)) :=
 mv_int hx hy (by
  show some (V.i .u8 (IntKind.u8.wrap (Int.ofNat x.toNat + Int.ofNat y.toNat))) = _
  have e : Int.ofNat x.toNat + Int.ofNat y.toNat = ((x.toNat + y.toNat : Nat) : Int) := by simp
  rw [e, wrapU8, ← byV_ofNat]
  congr 1)
theorem m_subW {x y : UInt8} (hx : evL l a = some (byV x)) (hy : evL l b = some (byV y)) : MVO K hp0 l L (.binOp .sub t a b t') (byV (x - y)) :=
 mv_int hx hy (by
  show some (V.i .u8 (IntKind.u8.wrap (Int.ofNat x.toNat - Int.ofNat y.toNat))) = _
  have h1 := x.toNat_lt
  have h2 := y.toNat_lt
  have e : (x - y).toNat = (256 - y.toNat + x.toNat) % 256 := by rw [UInt8.toNat_sub]
  have e2 : IntKind.u8.wrap (Int.ofNat x.toNat - Int.ofNat y.toNat) = (((256 - y.toNat + x.toNat) % 256 : Nat) : Int) := by
   simp only [IntKind.wrap, IntKind.bits, IntKind.signed]
   simp
   omega
  rw [e2, ← e]
  rfl)
end
theorem base_55 (x y : UInt8) : x + 56 - 1 + y = x + 55 + y := by
 have e : x + 56 - 1 = x + 55 := by
  rw [← UInt8.toNat_inj, UInt8.toNat_sub, UInt8.toNat_add, UInt8.toNat_add]
  have h1 : UInt8.toNat 56 = 56 := rfl
  have h2 : UInt8.toNat 55 = 55 := rfl
  have h3 : UInt8.toNat 1 = 1 := rfl
  rw [h1, h2, h3]
  omega
 rw [e]
theorem shortB_8 {n : Nat} (h : n < 18446744073709551616) : (shortB n).length ≤ 8 := shortB_len 8 n (by omega)
set_option maxHeartbeats 4000000 in
theorem shortest_d {n : Nat} {hp : Hp} (ho : OkH hp) (hn : n < 18446744073709551616) :
  Fn kxD 69 [.i .u64 (n : Int)] hp [] fun r N => ∃ u, r = .v u ∧ RowK (shortB n) u N := by
 have h8 := shortB_8 hn
 refine fn_of_w (T := []) ho.sv (fun _ => rfl) (fn := Try.f69) (by kernel_rfl) rfl rfl ?_
 refine wo ?_
 refine w_seq ?_
 refine wo ?_
 refine w_loop (ι := Nat × List UInt8 × V × HV) (fun s => [(3, s.2.2.1), (0, .i .u64 (s.1 : Int))]) (fun s => s.2.2.2) (fun s => s.1 ≤ n ∧ shortB n = shortB s.1 ++ s.2.1 ∧ RowK s.2.1 s.2.2.1 s.2.2.2) (fun s => s.1) (n, [], .sl none 0 0 false, []) ⟨Nat.le_refl _, (List.append_nil _).symm, .nil⟩ ⟨rfl, rfl, trivial⟩ (fun hp h => h) ?_
 intro ⟨m, acc, u, N⟩ ⟨h1, h2, h3⟩
 dsimp only at h1 h2 h3 ⊢
 obtain ⟨A, op, rfl⟩ := h3.sl
 have h4 : acc.length ≤ 8 := by
  have := congrArg List.length h2
  rw [List.length_append] at this
  omega
 refine wo ?_
 by_cases g : 0 < m
 ·apply wm; iterate 5 exact rfl
  refine mv_int (v := .b true) rfl rfl (vi_gtrT (by omega))
  refine wo ?_
  apply wm; iterate 5 exact rfl
  refine m_convB rfl
  apply p_op; exact (vwant_n rfl); iterate 4 exact rfl
  refine e_bs (C := [byV (UInt8.ofNat m)]) rfl rfl (.cons rfl rfl .nil) rfl fun b1 => ⟨_, rfl, ?_⟩
  refine wo ?_
  apply p_op; exact (vwant_n rfl); iterate 4 exact rfl
  refine e_appW (RowU.lit1 (y := UInt8.ofNat m)) rfl rfl h3.src rfl u8_one (by show 1 + acc.length ≤ _; omega) fun A' m' op' N' hu' hm' => ⟨_, rfl, ?_⟩
  refine wo ?_
  apply wm; iterate 5 exact rfl
  refine m_shrN rfl rfl (by decide)
  refine wo ?_
  refine ⟨rfl, (m / 2 ^ 8, UInt8.ofNat m :: acc, _, N'), ⟨Nat.le_trans (Nat.div_le_self _ _) h1, ?_, hu'⟩, Nat.div_lt_self g (by decide), ⟨rfl, rfl, trivial⟩, fun hp h => h.headL⟩
  rw [h2, shortB_pos g, List.append_assoc]
  rfl
 ·apply wm; iterate 5 exact rfl
  refine mv_int (v := .b false) rfl rfl (vi_gtrF (by omega))
  refine wo ?_
  refine w_exit ?_
  obtain rfl : m = 0 := by omega
  rw [shortB_zero, List.nil_append] at h2
  refine wo ?_
  exact w_ret (wend_ret (vres1 (rv_tmp rfl)) ⟨_, rfl, by rw [h2]; exact h3⟩)
set_option maxHeartbeats 4000000 in
theorem head_d {n : Nat} {base : UInt8} {hp : Hp} (ho : OkH hp) (hn : n < 9223372036854775808) :
  Fn kxD 65 [.i .i64 (n : Int), byV base] hp [] fun r N => ∃ u, r = .v u ∧ RowK (headB base n) u N := by
 have h8 := shortB_8 (n := n) (by omega)
 refine Fn.dropM ?_
 refine fn_of_w (T := []) ho.sv (fun _ => rfl) (fn := Try.f65) (by kernel_rfl) rfl rfl ?_
 refine wo ?_
 by_cases g : n < 56
 ·have e : headB base n = [base + UInt8.ofNat n] := if_pos g
  rw [e]
  apply wm; iterate 5 exact rfl
  refine mv_int (v := .b true) rfl rfl (vi_lssT (by omega))
  refine wo ?_
  apply wm; iterate 5 exact rfl
  refine m_convB rfl
  apply wm; iterate 5 exact rfl
  refine m_addB rfl rfl
  apply p_op; exact (vwant_n rfl); iterate 4 exact rfl
  refine e_bs (C := [byV (base + UInt8.ofNat n)]) rfl rfl (.cons rfl rfl .nil) rfl fun b1 => ⟨_, rfl, ?_⟩
  refine wo ?_
  exact w_ret (wend_ret (vres1 (rv_tmp rfl)) ⟨_, outM _, _, rfl, RowU.lit1⟩)
 ·have e : headB base n = (base + 55 + UInt8.ofNat (shortB n).length) :: shortB n := if_neg g
  rw [e]
  apply wm; iterate 5 exact rfl
  refine mv_int (v := .b false) rfl rfl (vi_lssF (by omega))
  refine wo ?_
  apply wm; iterate 5 exact rfl
  refine m_convU rfl (by omega)
  apply p_callY []; exact (vwant_n rfl); iterate 4 exact rfl
  case hC => exact (fun hp hs ht => shortest_d hs.ok (by omega))
  rintro u N hu
  obtain ⟨A, op, rfl⟩ := hu.sl
  refine wo ?_
  apply wm; iterate 5 exact rfl
  refine m_addB (y := 56) rfl rfl
  apply wm; iterate 5 exact rfl
  refine m_subW (y := 1) rfl rfl
  refine wo ?_
  apply wm; iterate 5 exact rfl
  refine m_convB rfl
  apply wm; iterate 5 exact rfl
  refine m_addB rfl rfl
  rw [base_55]
  apply p_op; exact (vwant_n rfl); iterate 4 exact rfl
  refine e_bs (C := [byV (base + 55 + UInt8.ofNat (shortB n).length)]) rfl rfl (.cons rfl rfl .nil) rfl fun b1 => ⟨_, rfl, ?_⟩
  refine wo ?_
  apply p_op; exact (vwant_n rfl); iterate 4 exact rfl
  refine e_appW (RowU.lit1 (y := base + 55 + UInt8.ofNat (shortB n).length)) rfl rfl hu.src rfl u8_one (by show 1 + _ ≤ _; omega) fun A' m' op' N' hu' hm' => ⟨_, rfl, ?_⟩
  refine wo ?_
  exact w_ret (wend_ret (vres1 (rv_tmp rfl)) ⟨_, outM N', _, rfl, hu'⟩)
theorem len_encs : ∀ (l : List It), l.length ≤ (encs l).length
 | [] => by simp
 | t :: r => by
  rw [encs, List.length_append, List.length_cons]
  have := enc_pos t
  have := len_encs r
  omega
theorem len_enc {l : List It} (h : (enc (.list l)).length ≤ 1073741824) : (encs l).length ≤ 1073741824 ∧ l.length ≤ 1073741824 := by
 rw [enc, List.length_append] at h
 have := len_encs l
 omega
theorem it_at {B : Bs} {l : List It} {A : Option (Nat × Nat)} {vs : List (List V)} {i : Nat} (hA : RB B A vs.flatten) (h : ItRs B l vs) (hi : i < l.length) : ∃ b o vi, A = some (b, o) ∧ (vs.flatten.drop (i * 3)).take 3 = vi ∧ ItR B l[i] vi ∧ vi.length = 3 ∧ vi ≠ [] := by
 obtain ⟨vi, hv, ht⟩ := itRs_at h (List.getElem?_eq_getElem hi)
 have h3 := itR_len ht
 have hne : vi ≠ [] := fun e => by rw [e] at h3; simp at h3
 have hf := flat_row (itRs_rows h) hv
 have hb : ∃ b o, A = some (b, o) := by
  cases hq : vs.flatten with
  | nil => rw [hq] at hf; simp at hf; exact absurd hf hne
  | cons v r => exact rv_some (by rw [← hq]; exact hA.1.rv)
 obtain ⟨b, o, rfl⟩ := hb
 exact ⟨b, o, vi, rfl, hf, ht, h3, hne⟩
set_option maxHeartbeats 8000000 in
theorem deeper_k : ∀ (k : Nat) {t : It} {v : List V} {most : Nat} {hp : Hp}, (enc t).length ≤ 1073741824 → depth t ≤ k → OkH hp → ItR ⟨hp, []⟩ t v → depth t ≤ most → most < 1000000 →
  Fn kxD 46 [.agg v, .i .i64 (most : Int)] hp [] fun r _ => r = .v (.b false) := by
 intro k
 induction k with
 | zero =>
  intro t v most hp hl hd ho ht hm hm2
  cases t with
  | list l => rw [depth] at hd; omega
  | str bs =>
   rw [ItR] at ht
   obtain ⟨A, c, o, rfl, hA⟩ := ht
   refine fn_of_w (T := []) ho.sv (fun _ => rfl) (fn := Try.f46) (by kernel_rfl) rfl rfl ?_
   refine wo ?_
   apply p_op; exact (vwant_n rfl); iterate 4 exact rfl
   refine ev_box rfl rfl fun bx => ⟨_, rfl, ?_⟩
   refine wo ?_
   exact w_ret (wend_ret (vres1 (rv_tmp rfl)) rfl)
 | succ k ih =>
  intro t v most hp hl hd ho ht hm hm2
  cases t with
  | str bs =>
   rw [ItR] at ht
   obtain ⟨A, c, o, rfl, hA⟩ := ht
   refine fn_of_w (T := []) ho.sv (fun _ => rfl) (fn := Try.f46) (by kernel_rfl) rfl rfl ?_
   refine wo ?_
   apply p_op; exact (vwant_n rfl); iterate 4 exact rfl
   refine ev_box rfl rfl fun bx => ⟨_, rfl, ?_⟩
   refine wo ?_
   exact w_ret (wend_ret (vres1 (rv_tmp rfl)) rfl)
  | list l =>
   rw [ItR] at ht
   obtain ⟨A, c, o, vs, rfl, hA, hvs⟩ := ht
   rw [depth] at hd hm
   obtain ⟨hl1, hl2⟩ := len_enc hl
   refine fn_of_w (T := []) ho.sv (fun _ => rfl) (fn := Try.f46) (by kernel_rfl) rfl rfl ?_
   refine wo ?_
   apply p_op; exact (vwant_n rfl); iterate 4 exact rfl
   refine ev_box rfl rfl fun bx => ⟨_, rfl, ?_⟩
   refine wo ?_
   apply wm; iterate 5 exact rfl
   refine mv_int (v := .b false) rfl rfl (vi_eqlF (by omega))
   refine wo ?_
   refine w_seq ?_
   refine wo ?_
   refine w_loop (ι := Nat) (fun i => [(15, .i .i64 (i : Nat)), (14, .i .i64 (l.length : Nat)), (13, .sl A l.length c o), (2, .p (some (bx, 0))), (1, .i .i64 (most : Nat))]) (fun i => [(some bx, cellsO [.b true, .sl none 0 0 false, .sl A l.length c o] 63)]) (fun i => i ≤ l.length) (fun i => l.length - i) 0 (Nat.zero_le _) ⟨rfl, rfl, rfl, rfl, rfl, trivial⟩ (fun hp h => h) ?_
   intro i hi
   refine wo ?_
   by_cases g : i < l.length
   ·obtain ⟨b, oa, vi, rfl, hvi, hti, h3, hne⟩ := it_at hA hvs g
    have hdi : depth l[i] ≤ depths l := depth_mem (List.getElem_mem g)
    have hei : (enc l[i]).length ≤ (encs l).length := enc_mem (List.getElem_mem g)
    apply wm; iterate 5 exact rfl
    refine mv_int (v := .b true) rfl rfl (vi_lssT (by omega))
    refine wo ?_
    apply wn; iterate 5 exact rfl
    refine p_ian rfl rfl g
    apply wm; iterate 5 exact rfl
    refine m_ldnN (j := i * 3) (s := 2) rfl hA.1 hA.2 rfl hvi h3
    apply p_op; exact (vwant_n rfl); iterate 4 exact rfl
    refine e_alloc rfl fun bi => ⟨_, rfl, ?_⟩
    apply p_do; exact (vwant_n rfl); exact rfl; exact rfl
    refine e_stn (C' := vi) rfl rfl hne h3 (by simp) (overV_all (by rw [h3]; rfl)) ⟨_, rfl, ?_⟩
    refine wo ?_
    refine zX (m_ldln (s := 2) (cs := vi) rfl (by rw [List.drop_zero]; exact List.take_of_length_le (by omega)) h3) ?_
    refine wo ?_
    refine p_callq (vwant_n rfl) rfl rfl rfl rfl (fun hp hs => ih (most := most - 1) (by omega) (by omega) hs.ok (hti.give0 hs) (by omega) (by omega)) ?_
    refine wo ?_
    exact ⟨rfl, i + 1, g, by omega, ⟨rfl, rfl, rfl, rfl, rfl, trivial⟩, fun hp h => h.pick [1] _ rfl (by decide)⟩
   ·apply wm; iterate 5 exact rfl
    refine mv_int (v := .b false) rfl rfl (vi_lssF (by omega))
    refine wo ?_
    refine w_exit ?_
    refine wo ?_
    exact w_ret (wend_ret (vres1 (rv_tmp rfl)) rfl)
theorem deeper_d {t : It} {v : List V} {most : Nat} {hp : Hp} (hl : (enc t).length ≤ 1073741824) (ho : OkH hp) (ht : ItR ⟨hp, []⟩ t v) (hm : depth t ≤ most) (hm2 : most < 1000000) :
  Fn kxD 46 [.agg v, .i .i64 (most : Int)] hp [] fun r _ => r = .v (.b false) := deeper_k _ hl (Nat.le_refl _) ho ht hm hm2
set_option maxHeartbeats 8000000 in
theorem rmay_k : ∀ (k : Nat) {t : It} {v : List V} {hp : Hp}, (enc t).length ≤ 1073741824 → depth t ≤ k → OkH hp → ItR ⟨hp, []⟩ t v →
  Fn kxD 47 [.agg v] hp [] fun r _ => r = .v (.b true) := by
 intro k
 induction k with
 | zero =>
  intro t v hp hl hd ho ht
  cases t with
  | list l => rw [depth] at hd; omega
  | str bs =>
   rw [ItR] at ht
   obtain ⟨A, c, o, rfl, hA⟩ := ht
   refine fn_of_w (T := []) ho.sv (fun _ => rfl) (fn := Try.f47) (by kernel_rfl) rfl rfl ?_
   refine wo ?_
   apply p_op; exact (vwant_n rfl); iterate 4 exact rfl
   refine ev_box rfl rfl fun bx => ⟨_, rfl, ?_⟩
   refine wo ?_
   apply wm; iterate 5 exact rfl
   refine mv_int (v := .b true) rfl rfl (vi_eqlT (rfl))
   refine wo ?_
   exact w_ret (wend_ret (vres1 (rv_tmp rfl)) rfl)
 | succ k ih =>
  intro t v hp hl hd ho ht
  cases t with
  | str bs =>
   rw [ItR] at ht
   obtain ⟨A, c, o, rfl, hA⟩ := ht
   refine fn_of_w (T := []) ho.sv (fun _ => rfl) (fn := Try.f47) (by kernel_rfl) rfl rfl ?_
   refine wo ?_
   apply p_op; exact (vwant_n rfl); iterate 4 exact rfl
   refine ev_box rfl rfl fun bx => ⟨_, rfl, ?_⟩
   refine wo ?_
   apply wm; iterate 5 exact rfl
   refine mv_int (v := .b true) rfl rfl (vi_eqlT (rfl))
   refine wo ?_
   exact w_ret (wend_ret (vres1 (rv_tmp rfl)) rfl)
  | list l =>
   rw [ItR] at ht
   obtain ⟨A, c, o, vs, rfl, hA, hvs⟩ := ht
   rw [depth] at hd
   obtain ⟨hl1, hl2⟩ := len_enc hl
   refine fn_of_w (T := []) ho.sv (fun _ => rfl) (fn := Try.f47) (by kernel_rfl) rfl rfl ?_
   refine wo ?_
   apply p_op; exact (vwant_n rfl); iterate 4 exact rfl
   refine ev_box rfl rfl fun bx => ⟨_, rfl, ?_⟩
   refine wo ?_
   refine w_seq ?_
   refine wo ?_
   refine w_loop (ι := Nat) (fun i => [(15, .i .i64 (i : Nat)), (14, .i .i64 (l.length : Nat)), (13, .sl A l.length c o), (1, .p (some (bx, 0)))]) (fun i => [(some bx, cellsO [.b true, .sl none 0 0 false, .sl A l.length c o] 63)]) (fun i => i ≤ l.length) (fun i => l.length - i) 0 (Nat.zero_le _) ⟨rfl, rfl, rfl, rfl, trivial⟩ (fun hp h => h) ?_
   intro i hi
   refine wo ?_
   by_cases g : i < l.length
   ·obtain ⟨b, oa, vi, rfl, hvi, hti, h3, hne⟩ := it_at hA hvs g
    have hdi : depth l[i] ≤ depths l := depth_mem (List.getElem_mem g)
    have hei : (enc l[i]).length ≤ (encs l).length := enc_mem (List.getElem_mem g)
    apply wm; iterate 5 exact rfl
    refine mv_int (v := .b true) rfl rfl (vi_lssT (by omega))
    refine wo ?_
    apply wn; iterate 5 exact rfl
    refine p_ian rfl rfl g
    apply wm; iterate 5 exact rfl
    refine m_ldnN (j := i * 3) (s := 2) rfl hA.1 hA.2 rfl hvi h3
    apply p_op; exact (vwant_n rfl); iterate 4 exact rfl
    refine e_alloc rfl fun bi => ⟨_, rfl, ?_⟩
    apply p_do; exact (vwant_n rfl); exact rfl; exact rfl
    refine e_stn (C' := vi) rfl rfl hne h3 (by simp) (overV_all (by rw [h3]; rfl)) ⟨_, rfl, ?_⟩
    refine wo ?_
    refine zX (m_ldln (s := 2) (cs := vi) rfl (by rw [List.drop_zero]; exact List.take_of_length_le (by omega)) h3) ?_
    refine p_callq (vwant_n rfl) rfl rfl rfl rfl (fun hp hs => ih (by omega) (by omega) hs.ok (hti.give0 hs)) ?_
    refine wo ?_
    exact ⟨rfl, i + 1, g, by omega, ⟨rfl, rfl, rfl, rfl, trivial⟩, fun hp h => h.pick [1] _ rfl (by decide)⟩
   ·apply wm; iterate 5 exact rfl
    refine mv_int (v := .b false) rfl rfl (vi_lssF (by omega))
    refine wo ?_
    refine w_exit ?_
    refine wo ?_
    apply wm; iterate 5 exact rfl
    refine mv_int (v := .b true) rfl rfl (vi_eqlT (rfl))
    refine wo ?_
    exact w_ret (wend_ret (vres1 (rv_tmp rfl)) rfl)
theorem rmay_d {t : It} {v : List V} {hp : Hp} (hl : (enc t).length ≤ 1073741824) (ho : OkH hp) (ht : ItR ⟨hp, []⟩ t v) : Fn kxD 47 [.agg v] hp [] fun r _ => r = .v (.b true) := rmay_k _ hl (Nat.le_refl _) ho ht
/- Js4: rlp: size, form, Encode. By this project. -/
theorem encs_succ {l : List It} {i : Nat} (h : i < l.length) : encs (l.take (i + 1)) = encs (l.take i) ++ enc l[i] := by
 rw [List.take_succ_eq_append_getElem h, encs_app, encs, encs, List.append_nil]
theorem encs_take (l : List It) (i : Nat) : (encs (l.take i)).length ≤ (encs l).length := by
 conv => rhs; rw [← List.take_append_drop i l, encs_app, List.length_append]
 omega
theorem strB_one {b : UInt8} (h : b.toNat < 128) : strB [b] = [b] := by show (if b.toNat < 128 then [b] else headB 128 1 ++ [b]) = _; rw [if_pos h]
theorem strB_big {b : UInt8} (h : ¬ b.toNat < 128) : strB [b] = headB 128 1 ++ [b] := by show (if b.toNat < 128 then [b] else headB 128 1 ++ [b]) = _; rw [if_neg h]
theorem strB_else {bs : List UInt8} (h : bs.length ≠ 1) : strB bs = headB 128 bs.length ++ bs := by
 unfold strB
 split
 ·simp at h
 ·rfl
theorem strB_many {bs : List UInt8} (h : ∀ b, bs = [b] → ¬ b.toNat < 128) : strB bs = headB 128 bs.length ++ bs := by
 by_cases g : bs.length = 1
 ·obtain ⟨b, rfl⟩ := List.length_eq_one_iff.1 g
  exact strB_big (h b rfl)
 ·exact strB_else g
theorem headB_len (base : UInt8) {n : Nat} (h : n < 18446744073709551616) : (headB base n).length ≤ 9 := by
 have := shortB_8 h
 unfold headB
 split
 ·simp
 ·simp only [List.length_cons]; omega
theorem rb_one {B : Bs} {A : Option (Nat × Nat)} {y : UInt8} {r : List V} (h : RB B A (byV y :: r)) : ∃ b o, A = some (b, o) := rv_some h.1.rv
set_option maxHeartbeats 8000000 in
theorem size_k : ∀ (k : Nat) {t : It} {v : List V} {hp : Hp}, depth t ≤ k → OkH hp → ItR ⟨hp, []⟩ t v → (enc t).length ≤ 1048576 →
  Fn kxD 48 [.agg v] hp [] fun r _ => r = .v (.i .i64 ((enc t).length : Int)) := by
 have strs : ∀ {bs : List UInt8} {v : List V} {hp : Hp}, OkH hp → ItR ⟨hp, []⟩ (.str bs) v → (enc (.str bs)).length ≤ 1048576 → Fn kxD 48 [.agg v] hp [] fun r _ => r = .v (.i .i64 ((enc (.str bs)).length : Int)) := by
  intro bs v hp ho ht hl
  rw [ItR] at ht
  obtain ⟨A, c, o, rfl, hA⟩ := ht
  rw [enc] at hl ⊢
  refine fn_of_w (T := []) ho.sv (fun _ => rfl) (fn := Try.f48) (by kernel_rfl) rfl rfl ?_
  refine wo ?_
  apply p_op; exact (vwant_n rfl); iterate 4 exact rfl
  refine ev_box rfl rfl fun bx => ⟨_, rfl, ?_⟩
  refine wo ?_
  iterate 4 ((try refine w_seq ?_); refine wo ?_)
  by_cases g : bs.length = 1
  ·obtain ⟨y, rfl⟩ := List.length_eq_one_iff.1 g
   obtain ⟨b, oa, rfl⟩ := rb_one hA
   apply wm; iterate 5 exact rfl
   refine mv_int (v := .b true) rfl rfl (vi_eqlT (rfl))
   refine wo ?_
   apply wg; iterate 7 exact rfl
   refine p_ia (i := 0) rfl rfl Nat.one_pos
   apply wmg; iterate 7 exact rfl
   refine m_ldN (j := 0) (v := byV y) rfl hA.1 hA.2 rfl rfl
   by_cases g2 : y.toNat < 128
   ·rw [strB_one g2]
    apply wmg; iterate 7 exact rfl
    refine mv_int (v := .b true) rfl rfl (vi_lssT ((by show Int.ofNat y.toNat < 128; simp; omega)))
    refine wo ?_
    exact w_ret (wend_ret (vres1 (rv_tmp rfl)) rfl)
   ·have h91 := headB_len 128 (n := 1) (by decide)
    rw [strB_big g2]
    apply wmg; iterate 7 exact rfl
    refine mv_int (v := .b false) rfl rfl (vi_lssF ((by show ¬ Int.ofNat y.toNat < 128; simp; omega)))
    refine wo ?_
    apply p_callY []; exact (vwant_n rfl); iterate 4 exact rfl
    case hC => exact (fun hp hs ht => head_d (n := 1) (base := 128) hs.ok (by decide))
    rintro u N hu
    obtain ⟨A', op', rfl⟩ := hu.sl
    refine wo ?_
    exact w_ret (wend_ret (vres1 (rv_tmp rfl)) (by rw [List.length_append, Nat.add_comm]))
  ·have hb : bs.length ≤ 1048576 := by
    rw [strB_else g, List.length_append] at hl
    omega
   have h9 := headB_len 128 (n := bs.length) (by omega)
   rw [strB_else g, List.length_append]
   apply wm; iterate 5 exact rfl
   refine mv_int (v := .b false) rfl rfl (vi_eqlF (by omega))
   refine wo ?_
   apply p_callY []; exact (vwant_n rfl); iterate 4 exact rfl
   case hC => exact (fun hp hs ht => head_d (n := bs.length) (base := 128) hs.ok (by omega))
   rintro u N hu
   obtain ⟨A', op', rfl⟩ := hu.sl
   refine wo ?_
   exact w_ret (wend_ret (vres1 (rv_tmp rfl)) (by rw [Nat.add_comm]))
 intro k
 induction k with
 | zero =>
  intro t v hp hd ho ht hl
  cases t with
  | list l => rw [depth] at hd; omega
  | str bs => exact strs ho ht hl
 | succ k ih =>
  intro t v hp hd ho ht hl
  cases t with
  | str bs => exact strs ho ht hl
  | list l =>
   rw [ItR] at ht
   obtain ⟨A, c, o, vs, rfl, hA, hvs⟩ := ht
   rw [depth] at hd
   have hl2 := (len_enc (l := l) (by omega)).2
   rw [enc, List.length_append] at hl ⊢
   have h9 := headB_len 192 (n := (encs l).length) (by omega)
   refine fn_of_w (T := []) ho.sv (fun _ => rfl) (fn := Try.f48) (by kernel_rfl) rfl rfl ?_
   refine wo ?_
   apply p_op; exact (vwant_n rfl); iterate 4 exact rfl
   refine ev_box rfl rfl fun bx => ⟨_, rfl, ?_⟩
   refine wo ?_
   iterate 4 ((try refine w_seq ?_); refine wo ?_)
   refine w_loop (ι := Nat) (fun i => [(15, .i .i64 (i : Nat)), (14, .i .i64 (l.length : Nat)), (13, .sl A l.length c o), (3, .i .i64 ((encs (l.take i)).length : Nat)), (4, byV 192), (1, .p (some (bx, 0)))]) (fun i => [(some bx, cellsO [.b true, .sl none 0 0 false, .sl A l.length c o] 63)]) (fun i => i ≤ l.length) (fun i => l.length - i) 0 (Nat.zero_le _) ⟨rfl, rfl, rfl, rfl, rfl, rfl, trivial⟩ (fun hp h => h) ?_
   intro i hi
   have hlt := encs_take l i
   refine wo ?_
   by_cases g : i < l.length
   ·obtain ⟨b, oa, vi, rfl, hvi, hti, h3, hne⟩ := it_at hA hvs g
    have hdi : depth l[i] ≤ depths l := depth_mem (List.getElem_mem g)
    have hli : (enc l[i]).length ≤ (encs l).length := enc_mem (List.getElem_mem g)
    have hl1 := encs_take l (i + 1)
    rw [encs_succ g, List.length_append] at hl1
    apply wm; iterate 5 exact rfl
    refine mv_int (v := .b true) rfl rfl (vi_lssT (by omega))
    refine wo ?_
    apply wn; iterate 5 exact rfl
    refine p_ian rfl rfl g
    apply wm; iterate 5 exact rfl
    refine m_ldnN (j := i * 3) (s := 2) rfl hA.1 hA.2 rfl hvi h3
    apply p_op; exact (vwant_n rfl); iterate 4 exact rfl
    refine e_alloc rfl fun bi => ⟨_, rfl, ?_⟩
    apply p_do; exact (vwant_n rfl); exact rfl; exact rfl
    refine e_stn (C' := vi) rfl rfl hne h3 (by simp) (overV_all (by rw [h3]; rfl)) ⟨_, rfl, ?_⟩
    refine wo ?_
    refine zX (m_ldln (s := 2) (cs := vi) rfl (by rw [List.drop_zero]; exact List.take_of_length_le (by omega)) h3) ?_
    refine p_callq (vwant_n rfl) rfl rfl rfl rfl (fun hp hs => ih (by omega) hs.ok (hti.give0 hs) (by omega)) ?_
    refine wo ?_
    apply wm; iterate 5 exact rfl
    refine mv_int (v := .b false) rfl rfl (vi_gtrF (by omega))
    refine wo ?_
    exact ⟨rfl, i + 1, g, by omega, ⟨rfl, rfl, rfl, by rw [encs_succ g, List.length_append]; rfl, rfl, rfl, trivial⟩, fun hp h => h.pick [1] _ rfl (by decide)⟩
   ·apply wm; iterate 5 exact rfl
    refine mv_int (v := .b false) rfl rfl (vi_lssF (by omega))
    refine wo ?_
    refine w_exit ?_
    obtain rfl : i = l.length := by omega
    rw [List.take_length]
    refine wo ?_
    apply p_callY []; exact (vwant_n rfl); iterate 4 exact rfl
    case hC => exact (fun hp hs ht => head_d (n := (encs l).length) (base := 192) hs.ok (by omega))
    rintro u N hu
    obtain ⟨A', op', rfl⟩ := hu.sl
    refine wo ?_
    exact w_ret (wend_ret (vres1 (rv_tmp rfl)) (by rw [Nat.add_comm]))
theorem size_d {t : It} {v : List V} {hp : Hp} (ho : OkH hp) (ht : ItR ⟨hp, []⟩ t v) (hl : (enc t).length ≤ 1048576) :
  Fn kxD 48 [.agg v] hp [] fun r _ => r = .v (.i .i64 ((enc t).length : Int)) := size_k _ (Nat.le_refl _) ho ht hl
theorem SV.fresh {B : Bs} {hp : Hp} {b : Nat} {o : VO} {M : HV} (h : SV B hp ((some b, o) :: M)) : b ∉ hnds M := fun hb => by
 obtain ⟨i, o', hi⟩ := hasT_hnds M b hb
 have := h.one 0 (i + 1) b o o' rfl (by simpa using hi)
 omega
instance {b : Nat} : NotIn b (hnds []) := ⟨by simp [hnds]⟩
instance {b : Nat} {x y : List Nat} [h : NotIn b x] [k : NotIn b y] : NotIn b (x ++ y) := ⟨fun e => (List.mem_append.1 e).elim h.h k.h⟩
set_option maxHeartbeats 16000000 in
theorem form_k : ∀ (k : Nat) {t : It} {v : List V} {xs : List UInt8} {u0 : V} {N0 : HV} {hp : Hp}, depth t ≤ k → SV ⟨hp, hnds N0⟩ hp N0 → RowK xs u0 N0 → ItR ⟨hp, hnds N0⟩ t v → xs.length + (enc t).length ≤ 1073741824 →
  Fn kxD 49 [u0, .agg v] hp (hnds N0) fun r N => ∃ u, r = .v u ∧ RowK (xs ++ enc t) u N := by
 have strs : ∀ {bs : List UInt8} {v : List V} {xs : List UInt8} {u0 : V} {N0 : HV} {hp : Hp}, SV ⟨hp, hnds N0⟩ hp N0 → RowK xs u0 N0 → ItR ⟨hp, hnds N0⟩ (.str bs) v → xs.length + (enc (.str bs)).length ≤ 1073741824 →
   Fn kxD 49 [u0, .agg v] hp (hnds N0) fun r N => ∃ u, r = .v u ∧ RowK (xs ++ enc (.str bs)) u N := by
  intro bs v xs u0 N0 hp h0 hu0 ht hl
  rw [ItR] at ht
  obtain ⟨A, c, o, rfl, hA⟩ := ht
  rw [enc] at hl ⊢
  obtain ⟨A0, op0, rfl⟩ := hu0.sl
  have big : (∀ b, bs = [b] → ¬ b.toNat < 128) → strB bs = headB 128 bs.length ++ bs := strB_many
  refine Fn.dropM ?_
  refine fn_of_w h0 (fun _ => rfl) (fn := Try.f49) (by kernel_rfl) rfl rfl ?_
  refine wo ?_
  apply p_op; exact (vwant_n rfl); iterate 4 exact rfl
  refine ev_box rfl rfl fun bx => ⟨_, rfl, ?_⟩
  refine wo ?_
  iterate 4 ((try refine w_seq ?_); refine wo ?_)
  by_cases g : ∃ y, bs = [y] ∧ y.toNat < 128
  ·obtain ⟨y, rfl, g2⟩ := g
   obtain ⟨b, oa, rfl⟩ := rb_one hA
   rw [strB_one g2]
   apply wm; iterate 5 exact rfl
   refine mv_int (v := .b true) rfl rfl (vi_eqlT (rfl))
   refine wo ?_
   apply wg; iterate 7 exact rfl
   refine p_ia (i := 0) rfl rfl Nat.one_pos
   apply wmg; iterate 7 exact rfl
   refine m_ldN (j := 0) (v := byV y) rfl hA.1 hA.2 rfl rfl
   apply wmg; iterate 7 exact rfl
   refine mv_int (v := .b true) rfl rfl (vi_lssT ((by show Int.ofNat y.toNat < 128; simp; omega)))
   refine wo ?_
   apply wn; iterate 5 exact rfl
   refine p_ia (i := 0) rfl rfl Nat.one_pos
   apply wm; iterate 5 exact rfl
   refine m_ldN (j := 0) (v := byV y) rfl hA.1 hA.2 rfl rfl
   apply p_op; exact (vwant_n rfl); iterate 4 exact rfl
   refine e_bs (C := [byV y]) rfl rfl (.cons rfl rfl .nil) rfl fun b1 => ⟨_, rfl, ?_⟩
   apply p_op; exact (vwant_n rfl); iterate 4 exact rfl
   refine e_appW (ys := [y]) hu0 rfl rfl (rz_loc (k := 1) rfl) rfl u8_one (by omega) fun A' m' op' N' hu' hm' => ⟨_, rfl, ?_⟩
   refine wo ?_
   exact w_ret (wend_ret (vres1 (rv_tmp rfl)) ⟨_, outM N', _, rfl, hu'⟩)
  ·have hs := big fun b e h => g ⟨b, e, h⟩
   have hb : bs.length ≤ 1073741824 := by rw [hs, List.length_append] at hl; omega
   rw [hs] at hl ⊢
   rw [List.length_append] at hl
   have tail : ∀ {l : VL} {nt : Nat}, True := fun {_ _} => trivial
   refine wl_know (φ := NotIn bx (hnds N0)) (fun hp hs => ⟨hs.fresh⟩) fun hni => ?_
   by_cases g1 : bs.length = 1
   ·obtain ⟨y, rfl⟩ := List.length_eq_one_iff.1 g1
    have hl1 : xs.length + ((headB 128 1).length + 1) ≤ 1073741824 := hl
    obtain ⟨b, oa, rfl⟩ := rb_one hA
    apply wm; iterate 5 exact rfl
    refine mv_int (v := .b true) rfl rfl (vi_eqlT (rfl))
    refine wo ?_
    apply wg; iterate 7 exact rfl
    refine p_ia (i := 0) rfl rfl Nat.one_pos
    apply wmg; iterate 7 exact rfl
    refine m_ldN (j := 0) (v := byV y) rfl hA.1 hA.2 rfl rfl
    apply wmg; iterate 7 exact rfl
    refine mv_int (v := .b false) rfl rfl (vi_lssF ((by have q : ¬ y.toNat < 128 := fun h => g ⟨y, rfl, h⟩; show ¬ Int.ofNat y.toNat < 128; simp; omega)))
    refine wo ?_
    apply d_callY []; exact (vwant_n rfl); decide +kernel; (iterate 4 exact rfl)
    try (case hok => exact rdOk_nil)
    case hC => exact (fun hp hs ht => head_d (n := 1) (base := 128) hs.ok (by decide))
    rintro u N hu
    obtain ⟨A', op', rfl⟩ := hu.sl
    refine wo ?_
    apply d_op; exact (vwant_n rfl); exact rfl; exact noRd rfl; decide +kernel; (iterate 3 exact rfl); rotate_left
    refine e_appW hu0 rfl rfl hu.src rfl u8_one (by omega) fun A1 m1 op1 N1 hu1 hm1 => ⟨_, rfl, ?_⟩
    try (case hok => exact rdOk_b (by decide +kernel))
    refine wo ?_
    apply d_op; exact (vwant_n rfl); exact rfl; exact noRd rfl; decide +kernel; (iterate 3 exact rfl); rotate_left
    refine e_appW (ys := [y]) hu1 rfl rfl hA.z rfl u8_one (by rw [List.length_append]; omega) fun A2 m2 op2 N2 hu2 hm2 => ⟨_, rfl, ?_⟩
    try (case hok => exact rdOk_b (by decide +kernel))
    refine wo ?_
    rw [List.append_assoc] at hu2
    exact w_ret (wend_ret (vres1 (rv_tmp rfl)) ⟨_, outM N2, _, rfl, hu2⟩)
   ·apply wm; iterate 5 exact rfl
    refine mv_int (v := .b false) rfl rfl (vi_eqlF (by omega))
    refine wo ?_
    apply d_callY []; exact (vwant_n rfl); decide +kernel; (iterate 4 exact rfl)
    try (case hok => exact rdOk_nil)
    case hC => exact (fun hp hs ht => head_d (n := bs.length) (base := 128) hs.ok (by omega))
    rintro u N hu
    obtain ⟨A', op', rfl⟩ := hu.sl
    refine wo ?_
    apply d_op; exact (vwant_n rfl); exact rfl; exact noRd rfl; decide +kernel; (iterate 3 exact rfl); rotate_left
    refine e_appW hu0 rfl rfl hu.src rfl u8_one (by omega) fun A1 m1 op1 N1 hu1 hm1 => ⟨_, rfl, ?_⟩
    try (case hok => exact rdOk_b (by decide +kernel))
    refine wo ?_
    apply d_op; exact (vwant_n rfl); exact rfl; exact noRd rfl; decide +kernel; (iterate 3 exact rfl); rotate_left
    refine e_appW (ys := bs) hu1 rfl rfl hA.z rfl u8_one (by rw [List.length_append]; omega) fun A2 m2 op2 N2 hu2 hm2 => ⟨_, rfl, ?_⟩
    try (case hok => exact rdOk_b (by decide +kernel))
    refine wo ?_
    rw [List.append_assoc] at hu2
    exact w_ret (wend_ret (vres1 (rv_tmp rfl)) ⟨_, outM N2, _, rfl, hu2⟩)
 intro k
 induction k with
 | zero =>
  intro t v xs u0 N0 hp hd h0 hu0 ht hl
  cases t with
  | list l => rw [depth] at hd; omega
  | str bs => exact strs h0 hu0 ht hl
 | succ k ih =>
  intro t v xs u0 N0 hp hd h0 hu0 ht hl
  cases t with
  | str bs => exact strs h0 hu0 ht hl
  | list l =>
   rw [ItR] at ht
   obtain ⟨A, c, o, vs, rfl, hA, hvs⟩ := ht
   rw [depth] at hd
   have hl2 := (len_enc (l := l) (by omega)).2
   rw [enc] at hl ⊢
   rw [List.length_append] at hl
   obtain ⟨A0, op0, rfl⟩ := hu0.sl
   refine Fn.dropM ?_
   refine fn_of_w h0 (fun _ => rfl) (fn := Try.f49) (by kernel_rfl) rfl rfl ?_
   refine wo ?_
   apply p_op; exact (vwant_n rfl); iterate 4 exact rfl
   refine ev_box rfl rfl fun bx => ⟨_, rfl, ?_⟩
   refine wo ?_
   iterate 4 ((try refine w_seq ?_); refine wo ?_)
   refine w_loop (ι := Nat × V × HV) (fun s => [(14, .i .i64 (s.1 : Nat)), (13, .i .i64 (l.length : Nat)), (12, .sl A l.length c o), (5, s.2.1), (3, .p (some (bx, 0))), (0, .sl A0 xs.length xs.length op0)]) (fun s => s.2.2 ++ ((some bx, cellsO [.b true, .sl none 0 0 false, .sl A l.length c o] 63) :: N0)) (fun s => s.1 ≤ l.length ∧ RowK (encs (l.take s.1)) s.2.1 s.2.2) (fun s => l.length - s.1) (0, .sl none 0 0 false, []) ⟨Nat.zero_le _, by rw [List.take_zero, encs]; exact .nil⟩ ⟨rfl, rfl, rfl, rfl, rfl, rfl, trivial⟩ (fun hp h => h) ?_
   intro ⟨i, u, N⟩ ⟨hi, hu⟩
   dsimp only at hi hu ⊢
   obtain ⟨A1, op1, rfl⟩ := hu.sl
   have hlt := encs_take l i
   refine wo ?_
   by_cases g : i < l.length
   ·obtain ⟨b, oa, vi, rfl, hvi, hti, h3, hne⟩ := it_at hA hvs g
    have hdi : depth l[i] ≤ depths l := depth_mem (List.getElem_mem g)
    have hl1 := encs_take l (i + 1)
    rw [encs_succ g, List.length_append] at hl1
    apply wm; iterate 5 exact rfl
    refine mv_int (v := .b true) rfl rfl (vi_lssT (by omega))
    refine wo ?_
    apply wn; iterate 5 exact rfl
    refine p_ian rfl rfl g
    apply wm; iterate 5 exact rfl
    refine m_ldnN (j := i * 3) (s := 2) rfl hA.1 hA.2 rfl hvi h3
    apply p_op; exact (vwant_n rfl); iterate 4 exact rfl
    refine e_alloc rfl fun bi => ⟨_, rfl, ?_⟩
    apply p_do; exact (vwant_n rfl); exact rfl; exact rfl
    refine e_stn (C' := vi) rfl rfl hne h3 (by simp) (overV_all (by rw [h3]; rfl)) ⟨_, rfl, ?_⟩
    refine wo ?_
    refine zX (m_ldln (s := 2) (cs := vi) rfl (by rw [List.drop_zero]; exact List.take_of_length_le (by omega)) h3) ?_
    apply p_callM (N); exact (vwant_n rfl); iterate 4 exact rfl
    case hC => exact (fun hp hs ht => ih (by omega) ht hu (itR_mono (fun h => h.give hs) _ _ hti) (by omega))
    rintro u N2 hu2
    refine wo ?_
    exact ⟨rfl, (i + 1, u, N2), ⟨g, by rw [encs_succ g]; exact hu2⟩, by dsimp only; omega, ⟨rfl, rfl, rfl, rfl, rfl, rfl, trivial⟩, fun hp h => h.sub ((List.sublist_cons_self _ _).append_left N2)⟩
   ·apply wm; iterate 5 exact rfl
    refine mv_int (v := .b false) rfl rfl (vi_lssF (by omega))
    refine wo ?_
    refine w_exit ?_
    obtain rfl : i = l.length := by omega
    rw [List.take_length] at hu
    refine wo ?_
    apply p_callY []; exact (vwant_n rfl); iterate 4 exact rfl
    case hC => exact (fun hp hs ht => head_d (n := (encs (l.take l.length)).length) (base := 192) hs.ok (by rw [List.take_length]; omega))
    rintro u N2 hu2
    rw [List.take_length] at hu2 ⊢
    obtain ⟨A2, op2, rfl⟩ := hu2.sl
    refine wo ?_
    apply p_op; exact (vwant_n rfl); iterate 4 exact rfl
    refine e_appW hu0 rfl rfl hu2.src rfl u8_one (by omega) fun A3 m3 op3 N3 hu3 hm3 => ⟨_, rfl, ?_⟩
    refine wo ?_
    apply p_op; exact (vwant_n rfl); iterate 4 exact rfl
    refine e_appW hu3 rfl rfl hu.src rfl u8_one (by rw [List.length_append]; omega) fun A4 m4 op4 N4 hu4 hm4 => ⟨_, rfl, ?_⟩
    refine wo ?_
    rw [List.append_assoc] at hu4
    exact w_ret (wend_ret (vres1 (rv_tmp rfl)) ⟨_, outM N4, _, rfl, hu4⟩)
theorem form_d {t : It} {v : List V} {hp : Hp} (ho : OkH hp) (ht : ItR ⟨hp, []⟩ t v) (hl : (enc t).length ≤ 1048576) :
  Fn kxD 49 [.sl none 0 0 false, .agg v] hp [] fun r N => ∃ u, r = .v u ∧ RowK (enc t) u N := form_k _ (xs := []) (N0 := []) (Nat.le_refl _) ho.sv .nil ht (by simp; omega)
set_option maxHeartbeats 4000000 in
theorem encode_d {t : It} {v : List V} {hp : Hp} (ho : OkH hp) (ht : ItR ⟨hp, []⟩ t v) (hd : depth t ≤ 80) (hl : (enc t).length ≤ 1048576) :
  Fn kxD 26 [.agg v] hp [] fun r N => ∃ u, r = .v u ∧ ∃ w, u = .tup [w, .i .i64 0] ∧ RowK (enc t) w N := by
 have h3 := itR_len ht
 have hne : v ≠ [] := fun e => by rw [e] at h3; simp at h3
 refine Fn.dropM ?_
 refine fn_of_w (T := []) ho.sv (fun _ => rfl) (fn := Try.f26) (by kernel_rfl) rfl rfl ?_
 refine wo ?_
 apply p_op; exact (vwant_n rfl); iterate 4 exact rfl
 refine ev_box rfl rfl fun bx => ⟨_, rfl, ?_⟩
 refine wo ?_
 refine zX (m_ldln (s := 2) (cs := v) rfl (by rw [List.drop_zero]; exact List.take_of_length_le (by omega)) h3) ?_
 refine p_callq (vwant_n rfl) rfl rfl rfl rfl (fun hp hs => deeper_d (most := 80) (by omega) hs.ok (ht.give0 hs) hd (by decide)) ?_
 refine wo ?_
 refine zX (m_ldln (s := 2) (cs := v) rfl (by rw [List.drop_zero]; exact List.take_of_length_le (by omega)) h3) ?_
 refine p_callq (vwant_n rfl) rfl rfl rfl rfl (fun hp hs => rmay_d (by omega) hs.ok (ht.give0 hs)) ?_
 refine wo ?_
 refine zX (m_ldln (s := 2) (cs := v) rfl (by rw [List.drop_zero]; exact List.take_of_length_le (by omega)) h3) ?_
 refine p_callq (vwant_n rfl) rfl rfl rfl rfl (fun hp hs => size_d hs.ok (ht.give0 hs) hl) ?_
 apply wm; iterate 5 exact rfl
 refine mv_int (v := .b false) rfl rfl (vi_gtrF (by omega))
 refine wo ?_
 refine zX (m_ldln (s := 2) (cs := v) rfl (by rw [List.drop_zero]; exact List.take_of_length_le (by omega)) h3) ?_
 apply p_callY []; exact (vwant_n rfl); iterate 4 exact rfl
 case hC => exact (fun hp hs ht2 => form_d hs.ok (ht.give0 hs) hl)
 rintro u N hu
 refine wo ?_
 exact w_ret (wend_ret (vres2 (rv_tmp rfl) (rv_tmp rfl)) ⟨_, outM N, _, rfl, _, rfl, hu⟩)
/- Js5: rows of elements of several cells; records; the journal's small functions. By this project. -/
inductive RowG (e : TypeId) (sz : Nat) : Nat → List V → V → HV → Prop
 | nil : RowG e sz 0 [] (.sl none 0 0 false) []
 | own {n : Nat} {cs : List V} {b : Nat} {op : Bool} {oo : Option Nat} (h : op = true → oo = some sz) (hl : cs.length = n * sz) : RowG e sz n cs (.sl (some (b, 0)) n n op) [(some b, .cells cs e oo false)]
theorem RowG.lit {e : TypeId} {sz n b : Nat} {C : List V} (hn : C.length = n * sz) : RowG e sz n C (.sl (some (b, 0)) n n false) [(some b, cellsO C e)] := .own (fun h => by simp at h) hn
theorem RowG.sl {e : TypeId} {sz n : Nat} {cs : List V} {u : V} {N : HV} (h : RowG e sz n cs u N) : ∃ A op, u = .sl A n n op := by
 cases h with
 | nil => exact ⟨_, _, rfl⟩
 | own h => exact ⟨_, _, rfl⟩
theorem RowG.src {e : TypeId} {sz m : Nat} {cs : List V} {A : Option (Nat × Nat)} {n c : Nat} {op : Bool} {M L r : HV} {B : Bs} (h : RowG e sz m cs (.sl A n c op) M) [k : OutM L M r] : RZ B L A cs := by
 cases h with
 | nil => exact rz_nil
 | own h hl => exact fun hp hs => (rz_loc (L := (some _, .cells cs e _ false) :: r) (k := cs.length) (by rw [List.drop_zero]; exact List.take_of_length_le (by simp))) hp (hs.perm k.h)
theorem RowG.rb {e : TypeId} {sz m : Nat} {cs : List V} {A : Option (Nat × Nat)} {n c : Nat} {op : Bool} {M Lt Lr r : HV} {B : Bs} {hp : Hp} (h : RowG e sz m cs (.sl A n c op) M) [k : OutM Lr M r] (hs : SV B hp (Lt ++ Lr)) : RB ⟨hp, hnds Lt⟩ A cs := by
 cases h with
 | nil => exact RB.nil
 | own h hl => exact rb_own (hs.perm (k.h.append_left Lt)) (i := 0) rfl (by rw [List.drop_zero]; exact List.take_of_length_le (by simp))
theorem RowG.rb0 {e : TypeId} {sz m : Nat} {cs : List V} {A : Option (Nat × Nat)} {n c : Nat} {op : Bool} {M L r : HV} {B : Bs} {hp : Hp} (h : RowG e sz m cs (.sl A n c op) M) [k : OutM L M r] (hs : SV B hp L) : RB ⟨hp, []⟩ A cs := RowG.rb (Lt := []) h hs
inductive SeqN (l : VL) (sz : Nat) : Nat → List (Nat × Operand) → List V → Prop
 | nil {i : Nat} : SeqN l sz i [] []
 | cons {i : Nat} {x : Operand} {v : V} {vc : List V} {r : List (Nat × Operand)} {vs : List V} (hx : evL l x = some v) (hc : v.cells = some vc) (h1 : vc.length = sz) (h : SeqN l sz (i + 1) r vs) : SeqN l sz i ((i, x) :: r) (vc ++ vs)
theorem SeqN.len {l : VL} {sz i : Nat} {xs : List (Nat × Operand)} {vs : List V} (h : SeqN l sz i xs vs) : vs.length = xs.length * sz := by
 induction h with
 | nil => simp
 | cons _ _ h1 _ ih => rw [List.length_append, ih, h1, List.length_cons, Nat.succ_mul, Nat.add_comm]
theorem SeqN.fill {l : VL} {sz : Nat} {fr : Tr V} (hf : FrV fr l) {i : Nat} {xs : List (Nat × Operand)} {vs : List V} (h : SeqN l sz i xs vs) : ∀ C : List V, i * sz + vs.length ≤ C.length → fillV fr (fun i => some (i * sz, sz)) C xs = some (C.take (i * sz) ++ vs ++ C.drop (i * sz + vs.length)) := by
 induction h with
 | nil => intro C _; simp [fillV]
 | @cons i x v vc r vs hx hc h1 h ih =>
  intro C hC
  rw [List.length_append, h1] at hC
  have e1 : Nat.beq (lenF vc) sz = true := by rw [lenF_eq, h1]; exact beq_t _
  have e2 : geL C (i * sz + sz) = true := geL_iff.2 (by omega)
  simp only [fillV, hf.ev hx, hc, Option.bind_some, e1, e2, Bool.and_self]
  have e3 : putAt (i * sz) C vc = C.take (i * sz) ++ vc ++ C.drop (i * sz + sz) := by rw [putAt_eq _ _ _ (by omega), h1]
  have e0 : (C.take (i * sz)).length = i * sz := by simp; omega
  have e4 : (C.take (i * sz) ++ vc).length = (i + 1) * sz := by rw [List.length_append, e0, h1, Nat.succ_mul]
  rw [e3, ih _ (by simp only [List.length_append, List.length_drop, e0, h1, Nat.succ_mul]; omega)]
  rw [List.take_append_of_le_length (by omega), List.take_of_length_le (by omega), List.drop_append, List.drop_of_length_le (by omega), e4, List.drop_drop]
  rw [show i * sz + sz + ((i + 1) * sz + vs.length - (i + 1) * sz) = i * sz + (vc ++ vs).length by rw [List.length_append, h1]; omega]
  simp
section
variable {K : Kx} {hp0 : Bs} {l : VL} {L : HV}
theorem e_bsn {t e : TypeId} {n sz : Nat} {z : V} {zc : List V} {xs : List (Nat × Operand)} {C C0 : List V} {k : VR → HV → Prop} [hS : SliceV K.C t e] [hs : SizeV K.C e sz] [hz : ZeroV K.C e z] (hc : z.cells = some zc) (hzl : zc.length = sz) (hn : Nat.ble (n * sz) 16777216 = true) (hq : SeqN l sz 0 xs C0) (hE : C0 = C) (hC : xs.length = n)
  (hk : ∀ b, k (.v (.sl (some (b, 0)) n n false)) ((some b, cellsO C e) :: L)) : EV K hp0 l L (.buildSlice t n xs.toArray) [] k := by
 rw [hE] at hq
 obtain ⟨ti, h3, h4⟩ := hS.h
 obtain ⟨te, h5, h6⟩ := hs.h
 obtain ⟨te', h7, h8⟩ := hz.h
 rw [h5] at h7
 obtain rfl := Option.some.inj h7
 exact ev_new (o := cellsO C e) (f := fun b => .sl (some (b, 0)) n n false) (fun call fr hp hf hsv => by
  show ret2 (vbuildS K.C hp fr t n xs) = _
  have hl := hq.len
  rw [hC] at hl
  have hrl : (repL zc n).length = n * sz := by
   clear hn hq hC hk hl
   induction n with
   | zero => rw [repL_zero]; simp
   | succ n ih => rw [repL_succ, List.length_append, ih, hzl, Nat.succ_mul, Nat.add_comm]
  have e1 := hq.fill hf (repL zc n) (by omega)
  rw [Nat.zero_mul, List.take_zero, List.nil_append, List.drop_of_length_le (by omega), List.append_nil] at e1
  simp only [vbuildS, h3, Option.bind_some, h4, h5, h8, hc, h6, hn, e1, ret2]
  cases hp.new (cellsO C e) <;> rfl) hk
theorem e_appN {tS tX e eX : TypeId} {s x : Operand} {A : Option (Nat × Nat)} {n c m sz : Nat} {op' : Bool} {cs ds : List V} {u : V} {N0 L1 : HV} {k : VR → HV → Prop} [hS : SliceV K.C tS e] [hz : SizeV K.C e (sz + 1)] [hG : GrowV K.C e] [hX : SliceV K.C tX eX] (hu : RowG e (sz + 1) m cs u N0) (hs : evL l s = some u) (hx : evL l x = some (.sl A n c op')) [hL : OutM L N0 L1] (hr : RZ hp0 L A ds) (hn : ds.length = n * (sz + 1)) (h0 : 0 < n) (hl : m + n ≤ 1073741824)
  (hk : ∀ A' op' N', RowG e (sz + 1) (m + n) (cs ++ ds) (.sl A' (m + n) (m + n) op') N' → k (.v (.sl A' (m + n) (m + n) op')) (N' ++ L1)) : EV K hp0 l L (.call { callee := .builtin .append, args := #[s, x], argTypes := #[tS, tX] }) (hnds N0) k := by
 obtain ⟨ti, h3, h4⟩ := hS.h
 obtain ⟨te, h5, h6⟩ := hz.h
 obtain ⟨tx, h7, h8⟩ := hX.h
 obtain ⟨tg, h9, h10⟩ := hG.h
 rw [h5] at h9
 obtain rfl := Option.some.inj h9
 haveI : TiV K.C tS ti := ⟨h3⟩
 haveI : TiV K.C e te := ⟨h5⟩
 haveI : TiV K.C tX tx := ⟨h7⟩
 have hsrc : SrcV K hp0 L tX te.size (.sl A n c op') n ds := src_sl h8 hr (by rw [h6]; exact hn) (by omega)
 cases hu with
 | nil =>
  refine ev_heap (k' := fun r L' => ∃ b, r = .v (.sl (some (b, 0)) n n true) ∧ L' = (some b, .cells ds e (some te.size) false) :: L) (ev_app0 (c := 0) hs hx h4 hsrc h0 (.inl (by omega)) h10 fun b => ⟨b, rfl, rfl⟩) ?_
  rintro r L' ⟨b, rfl, rfl⟩
  refine ⟨(some b, .cells ds e (some te.size) false) :: L1, fun hp h => h.perm (hL.h.cons _), ?_⟩
  have := hk (some (b, 0)) true [(some b, .cells ds e (some te.size) false)] (by
   rw [Nat.zero_add, List.nil_append, h6]
   exact RowG.own (fun _ => rfl) hn)
  rw [Nat.zero_add] at this
  exact this
 | @own _ _ b op oo h hcl =>
  obtain ⟨i, hi⟩ := List.getElem?_of_mem (hL.h.mem_iff.2 (List.mem_append_left _ (List.mem_singleton.2 rfl)))
  haveI : AtV b L (.cells cs e oo false) i := ⟨hi⟩
  have hfin : ∀ b', RowG e (sz + 1) (m + n) (cs ++ ds) (.sl (some (b', 0)) (m + n) (m + n) true) [(some b', .cells (cs ++ ds) e (some te.size) false)] := fun b' => by
   rw [h6]
   exact RowG.own (fun _ => rfl) (by rw [List.length_append, hcl, hn, Nat.add_mul])
  cases op with
  | true =>
   obtain rfl := h rfl
   haveI : AtV b L (.cells cs e (some te.size) false) i := ⟨by rw [h6]; exact hi⟩
   refine ev_heap (k' := fun r L' => ∃ b', r = .v (.sl (some (b', 0)) (m + n) (m + n) true) ∧ L' = L.set i (some b', .cells (cs ++ ds) e (some te.size) false)) (ev_appO (L' := L) (old := cs) (mk := false) (i := i) hs hx h4 (by rw [h6]; exact hcl) hsrc h0 (.inl hl) h10 fun b' => ⟨b', rfl, rfl⟩) ?_
   rintro r L' ⟨b', rfl, rfl⟩
   exact ⟨(some b', .cells (cs ++ ds) e (some te.size) false) :: L1, fun hp h' => h'.perm (perm_set hL.h hi), hk _ _ [_] (hfin b')⟩
  | false =>
   refine ev_tch (ev_heap (k' := fun r L' => ∃ b', r = .v (.sl (some (b', 0)) (m + n) (m + n) true) ∧ L' = (some b', .cells (cs ++ ds) e (some te.size) false) :: L) (ev_appG (old := cs) hs hx h4 (rz_loc (k := cs.length) (by rw [List.drop_zero]; exact List.take_of_length_le (Nat.le_refl _))) (by rw [h6]; exact hcl) hsrc (by omega) (.inl hl) h10 fun b' => ⟨b', rfl, rfl⟩) ?_)
   rintro r L' ⟨b', rfl, rfl⟩
   exact ⟨(some b', .cells (cs ++ ds) e (some te.size) false) :: L1, fun hp h' => (h'.perm (hL.h.cons _)).sub ((List.sublist_cons_self _ _).cons_cons _), hk _ _ [_] (hfin b')⟩
end
structure Chg where
 key : List UInt8
 val : List UInt8
 gone : Bool
structure Rec where
 kind : Int
 count : Int
 seq : Int
 prev : List UInt8
 root : List UInt8
 ch : List Chg
def ChgR (B : Bs) (c : Chg) (v : List V) : Prop := ∃ A kc ko A' vc vo, v = [.sl A c.key.length kc ko, .sl A' c.val.length vc vo, .b c.gone] ∧ RB B A (c.key.map byV) ∧ RB B A' (c.val.map byV)
def ChgRs (B : Bs) : List Chg → List (List V) → Prop
 | [], vs => vs = []
 | c :: r, vs => ∃ v ws, vs = v :: ws ∧ ChgR B c v ∧ ChgRs B r ws
theorem ChgR.mono {B B' : Bs} (hm : ∀ {A : Option (Nat × Nat)} {cs : List V}, RB B A cs → RB B' A cs) {c : Chg} {v : List V} (h : ChgR B c v) : ChgR B' c v := by
 obtain ⟨A, kc, ko, A', vc, vo, h1, h2, h3⟩ := h
 exact ⟨A, kc, ko, A', vc, vo, h1, hm h2, hm h3⟩
theorem chgRs_mono {B B' : Bs} (hm : ∀ {A : Option (Nat × Nat)} {cs : List V}, RB B A cs → RB B' A cs) : ∀ {l : List Chg} {vs : List (List V)}, ChgRs B l vs → ChgRs B' l vs
 | [], vs, h => h
 | t :: r, vs, h => by
  obtain ⟨v, ws, h0, h1, h2⟩ := h
  exact ⟨v, ws, h0, h1.mono hm, chgRs_mono hm h2⟩
def recC (r : Rec) (s : V) : List V := .i .i64 r.kind :: .i .i64 r.count :: .i .i64 r.seq :: (r.prev.map byV ++ (r.root.map byV ++ [s]))
structure RecOk (r : Rec) : Prop where
 prev : r.prev.length = 32
 root : r.root.length = 32
 len : r.ch.length * 56 ≤ 140737488355328
 kv : ∀ c ∈ r.ch, c.key.length ≤ 140737488355328 ∧ c.val.length ≤ 140737488355328
def RecR (B : Bs) (r : Rec) (v : List V) : Prop := RecOk r ∧ ∃ A c o vs, v = recC r (.sl A r.ch.length c o) ∧ RB B A vs.flatten ∧ ChgRs B r.ch vs
theorem RecR.mono {B B' : Bs} (hm : ∀ {A : Option (Nat × Nat)} {cs : List V}, RB B A cs → RB B' A cs) {r : Rec} {v : List V} (h : RecR B r v) : RecR B' r v := by
 obtain ⟨h0, A, c, o, vs, h1, h2, h3⟩ := h
 exact ⟨h0, A, c, o, vs, h1, hm h2, chgRs_mono hm h3⟩
theorem RecR.give0 {B : Bs} {hp : Hp} {L : HV} {r : Rec} {v : List V} (h : RecR B r v) (hs : SV B hp L) : RecR ⟨hp, []⟩ r v := h.mono fun h => h.give0 hs
theorem RecR.give {B : Bs} {hp : Hp} {Lt Lr : HV} {r : Rec} {v : List V} (h : RecR B r v) (hs : SV B hp (Lt ++ Lr)) : RecR ⟨hp, hnds Lt⟩ r v := h.mono fun h => h.give hs
end Go.Proofs.Ytabpegdalmagpaa
/- Je: a record that was handed in, opened. By this project. -/
set_option maxRecDepth 100000
namespace Go.Proofs.Ytabpegdalmagpaa
open Go.ChangeShapes Go.WideShapes Go.ChangeAt Go.RowKit Go.Extern.Stop
structure BOk (W : World) (q : GV) (xs : List UInt8) (c : Nat) : Prop where
 cs : q.cs = xs.map byV
 emp : q.A = none → xs = []
 spot : ∀ a, q.A = some a → a.spot ≠ none → xs = [] ∧ c = 0
 at' : ∀ a, q.A = some a → xs ≠ [] → ∃ pre sp fz, W.heap[a.block]? = some (.cells (pre ++ xs.map cell ++ sp).toArray q.T fz) ∧ pre.length = a.off ∧ sp.length = q.ex * q.sz
 cap : xs.length ≤ c
theorem BOk.gv {W : World} {E : Env} {q : GV} {xs : List UInt8} {c : Nat} (h : BOk W q xs c) : GvOk W E q := by
 refine ⟨fun e => by rw [h.cs, h.emp e]; rfl, fun a ha hs => by rw [h.cs, (h.spot a ha hs).1]; rfl, fun a ha hn => ?_, ?_⟩
 ·have hx : xs ≠ [] := fun e => hn (by rw [h.cs, e]; rfl)
  obtain ⟨pre, sp, fz, h1, h2, h3⟩ := h.at' a ha hx
  exact ⟨pre, xs.map cell, sp, fz, by rw [h.cs]; exact renL_bytes xs, List.all_eq_true.2 (fun v hv => by obtain ⟨y, _, rfl⟩ := List.mem_map.1 hv; rfl), h1, h2, h3⟩
 ·rw [h.cs]
  cases xs <;> rfl
theorem rw_spot {W : World} {a : Addr} {v : Value} {r : List Value} (h : RW W (some a) (v :: r)) : a.spot = none := by
 obtain ⟨a', e, h1⟩ := h 0 v rfl
 obtain rfl := Option.some.inj e
 have : a.add 0 = a := rfl
 rw [this] at h1
 unfold World.cell? at h1
 split at h1
 ·split at h1
  ·simp at h1
  ·rename_i hs
   simpa using hs
 ·simp at h1
section
variable {H : Type} {enc : TypeId × Value → H} {P : Program} {W : World} {base : Nat} {held : Bool} {t e : TypeId}
theorem open_gb (ht : sliceT P t = some e) (he : intT P e = some .u8) (hc : P.cellsOf e = 1) (hby : P.bytesOf e = 1) {fuel : Nat} {v : Value} {d : DataW H} {ps : List MemPlace} (h : DataW.trod enc P W base (fun _ => true) held fuel t [v] = some (d, ps)) (hz : (DataW.weights P t d).all (· ≤ reachBytes) = true) :
  ∃ (q : GV) (xs : List UInt8) (c : Nat), v = .slice q.A xs.length c ∧ BOk W q xs c ∧ xs.length ≤ 140737488355328 := by
 obtain ⟨v', xs, h1, h2⟩ := open_b ht he hc h
 obtain rfl : v = v' := by simpa using h1
 obtain ⟨A, c, rfl, hxc, hrw⟩ := h2.get
 have hspot : ∀ a, A = some a → a.spot ≠ none → xs = [] ∧ c = 0 := fun a ha hs => by
  subst ha
  have hx : xs = [] := by
   cases xs with
   | nil => rfl
   | cons x r => exact absurd (rw_spot hrw) hs
  subst hx
  refine ⟨rfl, ?_⟩
  rcases DataW.trod_slice (und_slice ht) h with ⟨e1, _⟩ | ⟨a', len, cap, elems, rest, n, _, e1, _, _, _, _, _, _, e2, _⟩
  ·simp only [List.cons.injEq, Value.slice.injEq, and_true] at e1
   exact e1.2.2
  ·simp only [List.cons.injEq, Value.slice.injEq, Option.some.injEq, and_true] at e1
   obtain ⟨rfl, rfl, rfl⟩ := e1
   obtain ⟨hr, hj⟩ := e2 rfl
   rcases Nat.eq_zero_or_pos c with h0 | h0
   ·exact h0
   ·exfalso
    simp only [List.length_nil, Nat.sub_zero] at hr hj
    have h3 := hj 0 h0
    rw [List.getElem?_eq_getElem (by omega), Option.bind_eq_some_iff] at h3
    obtain ⟨cs, h4, _⟩ := h3
    rw [hc] at h4
    simp only [Nat.add_zero, Nat.zero_mul] at h4
    have h5 := World.cells?_some h4
    have h6 := h5.2.2 0 (by omega)
    have h7 : cs.length = 1 := h5.2.1
    rw [List.getElem?_eq_getElem (by omega)] at h6
    have e0 : (a.add 0).add 0 = a := rfl
    rw [e0] at h6
    unfold World.cell? at h6
    split at h6
    ·split at h6
     ·simp at h6
     ·rename_i hq
      exact hs (by simpa using hq)
    ·simp at h6
 have hlen : xs.length ≤ 140737488355328 := by
  rcases h2.shape with h3 | ⟨elems, spare, rfl, h4⟩
  ·rw [h3]; decide
  ·simp only [DataW.weights, und_slice ht, hby, List.all_cons, Bool.and_eq_true, decide_eq_true_eq] at hz
   have := hz.1
   simp only [reachBytes, Nat.mul_one] at this
   omega
 cases hx : xs with
 | nil =>
  subst hx
  exact ⟨⟨A, [], 0, 1, 0⟩, [], c, rfl, ⟨rfl, fun _ => rfl, hspot, fun a _ hn => absurd rfl hn, hxc⟩, by decide⟩
 | cons x r =>
  subst hx
  obtain ⟨a, rfl, _⟩ := hrw 0 (cell x) rfl
  have hsp := rw_spot hrw
  obtain ⟨pre, sp, T, fz, h3, h4⟩ := rw_block hsp (by simp) hrw
  refine ⟨⟨some a, (x :: r).map byV, T, 1, sp.length⟩, x :: r, c, rfl, ⟨rfl, fun e => by simp at e, hspot, fun a' ha _ => ?_, hxc⟩, hlen⟩
  simp only [Option.some.injEq] at ha
  subst ha
  exact ⟨pre, sp, fz, h3, h4, (Nat.mul_one _).symm⟩
theorem weightsEach_at : ∀ {ts : List TypeId} {ds : List (DataW H)} {i : Nat} {t : TypeId} {d : DataW H}, ts[i]? = some t → ds[i]? = some d → (DataW.weightsEach P ts ds).all (· ≤ reachBytes) = true → (DataW.weights P t d).all (· ≤ reachBytes) = true
 | [], _, _, _, _, h, _, _ => by simp at h
 | _ :: _, [], _, _, _, _, h, _ => by simp at h
 | t' :: ts, d' :: ds, 0, t, d, h, h', hz => by
  simp at h h'
  subst h h'
  simp only [DataW.weightsEach, List.all_append, Bool.and_eq_true] at hz
  exact hz.1
 | t' :: ts, d' :: ds, i + 1, t, d, h, h', hz => by
  simp only [DataW.weightsEach, List.all_append, Bool.and_eq_true] at hz
  exact weightsEach_at (by simpa using h) (by simpa using h') hz.2
theorem weightsAll_at : ∀ {ds : List (DataW H)} {d : DataW H}, d ∈ ds → (DataW.weightsAll P t ds).all (· ≤ reachBytes) = true → (DataW.weights P t d).all (· ≤ reachBytes) = true
 | [], _, h, _ => by simp at h
 | d' :: ds, d, h, hz => by
  simp only [DataW.weightsAll, List.all_append, Bool.and_eq_true] at hz
  rcases List.mem_cons.1 h with rfl | h
  ·exact hz.1
  ·exact weightsAll_at h hz.2
end
structure Ent where
 qk : GV
 qv : GV
 ck : Nat
 cv : Nat
 c : Chg
def Ent.cells (e : Ent) : List Value := [.slice e.qk.A e.c.key.length e.ck, .slice e.qv.A e.c.val.length e.cv, .bool e.c.gone]
instance : Inhabited GV := ⟨⟨none, [], 0, 1, 0⟩⟩
section
variable {H : Type} {enc : TypeId × Value → H} {P : Program} {W : World} {base : Nat} {held : Bool} {t e : TypeId}
theorem trod_at {i o : Nat} (hu : fieldT P t i = some (o, e)) {fuel : Nat} {cs : List Value} {d : DataW H} {ps : List MemPlace} (h : DataW.trod enc P W base (fun _ => true) held fuel t cs = some (d, ps)) (hz : (DataW.weights P t d).all (· ≤ reachBytes) = true) :
  ∃ n d' ps', DataW.trod enc P W base (fun _ => true) held n e ((cs.drop o).take (P.cellsOf e)) = some (d', ps') ∧ (DataW.weights P e d').all (· ≤ reachBytes) = true := by
 obtain ⟨fs, f, h1, h2, rfl, rfl⟩ := und_field hu
 obtain ⟨xs, n, rfl, hx, hl, hlen, hf⟩ := DataW.trod_struct h1 h
 simp only [Prod.mk.injEq] at hx
 obtain ⟨rfl, rfl⟩ := hx
 have hi : i < xs.length := by rw [hlen]; exact (Array.getElem?_eq_some_iff.1 h2).1
 have h3 := hf i f h2
 rw [List.getElem?_eq_getElem hi] at h3
 refine ⟨n, xs[i].1, xs[i].2, h3, ?_⟩
 simp only [DataW.weights, h1] at hz
 exact weightsEach_at (i := i) (by simp [h2]) (by simp [hi]) hz
theorem trod_len {i o : Nat} (hu : fieldT P t i = some (o, e)) {fuel : Nat} {cs : List Value} {x : DataW H × List MemPlace} (h : DataW.trod enc P W base (fun _ => true) held fuel t cs = some x) : cs.length = P.cellsOf t := by
 obtain ⟨fs, f, h1, h2, rfl, rfl⟩ := und_field hu
 obtain ⟨xs, n, rfl, hx, hl, hlen, hf⟩ := DataW.trod_struct h1 h
 exact hl
end
/- Wy: rows told at general places; arrays of bytes that are handed in. By this project. -/
def AtG (bs : List GV) (p : Nat) (G : List GV) : Prop := ∀ j q, G[j]? = some q → bs[p + j]? = some q
theorem AtG.tail {bs G : List GV} {p : Nat} {q : GV} (h : AtG bs p (q :: G)) : AtG bs (p + 1) G := fun j x hj => by
 have := h (j + 1) x (by simpa using hj)
 rwa [show p + 1 + j = p + (j + 1) by omega]
theorem AtG.left {bs G H : List GV} {p : Nat} (h : AtG bs p (G ++ H)) : AtG bs p G := fun j x hj => h j x (by rw [List.getElem?_append_left (List.getElem?_eq_some_iff.1 hj).1]; exact hj)
theorem AtG.zero {bs : List GV} : AtG bs 0 bs := fun j x hj => by rwa [Nat.zero_add]
theorem bytes_of : ∀ {cs : List Value}, (∀ i, i < cs.length → ∃ y : UInt8, cs[i]? = some (cell y)) → ∃ pv : List UInt8, cs = pv.map cell
 | [], _ => ⟨[], rfl⟩
 | c :: r, h => by
  obtain ⟨y, hy⟩ := h 0 (by simp)
  obtain ⟨pv, hp⟩ := bytes_of (cs := r) (fun i hi => by
   obtain ⟨z, hz⟩ := h (i + 1) (by simpa using hi)
   exact ⟨z, by simpa using hz⟩)
  simp only [List.getElem?_cons_zero, Option.some.injEq] at hy
  exact ⟨y :: pv, by rw [hy, hp]; rfl⟩
theorem u8_wf {m : Int} (h : (Lit.int .u8 m).wf = true) : ∃ y : UInt8, m = (y.toNat : Int) := by
 unfold Lit.wf at h
 simp [IntKind.min, IntKind.max, IntKind.signed, IntKind.bits] at h
 exact ⟨UInt8.ofNat m.toNat, by rw [UInt8.toNat_ofNat']; omega⟩
section
variable {H : Type} {enc : TypeId × Value → H} {W : World} {base : Nat} {held : Bool}
theorem trod_bytes {P : Program} {t e : TypeId} {n : Nat} (ht : arrayT P t = some (n, e)) (he : intT P e = some .u8) (hc : P.cellsOf e = 1) (hn : P.cellsOf t = n) {fuel : Nat} {cs : List Value} {x : DataW H × List MemPlace} (h : DataW.trod enc P W base (fun _ => true) held fuel t cs = some x) : ∃ pv : List UInt8, cs = pv.map cell ∧ pv.length = n := by
 obtain ⟨xs, m, _, _, hl, hxl, hf⟩ := DataW.trod_array (und_array ht) h
 rw [hn] at hl
 obtain ⟨pv, hp⟩ := bytes_of (cs := cs) fun i hi => by
  have h1 := hf i (by omega)
  rw [hc, Nat.mul_one, List.getElem?_eq_getElem (by omega)] at h1
  obtain ⟨m', e1, _, e3⟩ := DataW.trod_int (und_int he) h1
  obtain ⟨y, rfl⟩ := u8_wf e3
  refine ⟨y, ?_⟩
  have h2 : ((cs.drop i).take 1)[0]? = some (cell y) := by rw [e1]; rfl
  rw [List.getElem?_take, if_pos (by decide), List.getElem?_drop] at h2
  exact h2
 exact ⟨pv, hp, by rw [hp, List.length_map] at hl; exact hl⟩
end
end Go.Proofs.Ytabpegdalmagpaa
/- Wdp: a region that draws, in which one operation panics; a deferred function that recovers. By this project. -/
namespace Go.Proofs.Ytabpegdalmagpaa
open Go.RowKit Go.Extern.Stop
theorem vdpan_none {C : Cx} {call : CallF} {n : Nat} {ops : List Oper} {hp : Hp} {pres : Tr Nat} {t0 : Tr VO} {q : V × Hp} : ∀ {r : List Oper} {i : Nat} {fr : Tr V} {rds : List (Nat × List Nat)}, vdpan C call n ops hp pres r i fr = some q → vdraw C call n ops pres t0 r i ⟨true, [], 0, fr, hp, rds⟩ = none
 | [], i, fr, rds, h => by simp [vdpan] at h
 | o :: r, i, fr, rds, h => by
  unfold vdpan at h
  simp only [vdraw]
  have hm : ∀ m, maskLe 0 m = true := fun m => by simp [maskLe]
  have hrd : ∀ m, rdTry C call hp fr o.op m [] = rdTry C call hp fr o.op 0 [] := fun m => rfl
  split at h
  ·rename_i fr' hq
   have key : ∃ rds', vd1 C call n ops pres t0 o i ⟨true, [], 0, fr, hp, rds⟩ = some ⟨true, [], 0, fr', hp, rds'⟩ := by
    simp only [vq1, Option.bind_eq_some_iff] at hq
    obtain ⟨b, hb, hq⟩ := hq
    simp only [vd1, hb, Option.bind_some]
    cases b with
    | false =>
     simp only at hq ⊢
     rw [hq]
     exact ⟨_, rfl⟩
    | true =>
     simp only at hq ⊢
     cases hp' : isPure o.op with
     | true =>
      simp only [hp', Option.bind_eq_some_iff] at hq
      obtain ⟨v, hv, hq⟩ := hq
      simp only [hv, Option.bind_some, hq]
      exact ⟨_, rfl⟩
     | false =>
      simp only [hp', Option.bind_eq_some_iff] at hq
      obtain ⟨vR, hv, hq⟩ := hq
      simp only [hrd, hv, Option.bind_some, hq]
      exact ⟨_, rfl⟩
   obtain ⟨rds', e⟩ := key
   rw [e, Option.bind_some]
   exact vdpan_none h
  ·rename_i hq
   simp only [Option.bind_eq_some_iff] at h
   obtain ⟨b, hb, h⟩ := h
   have key : vd1 C call n ops pres t0 o i ⟨true, [], 0, fr, hp, rds⟩ = none := by
    simp only [vq1, hb, Option.bind_some] at hq
    simp only [vd1, hb, Option.bind_some]
    cases b with
    | false => simp at h
    | true =>
     simp only at hq h ⊢
     cases hp' : isPure o.op with
     | true => simp [hp'] at h
     | false =>
      simp only [hp', Option.bind_eq_some_iff] at h hq
      obtain ⟨⟨rr, qq⟩, hv, h⟩ := h
      simp only [hrd]
      cases hr : rdTry C call hp fr o.op 0 [] with
      | some vR =>
       simp only [hr, Option.bind_some] at hq
       simp only [hq, Option.bind_none]
      | none =>
       simp only [hm, hv, Option.bind_some]
       cases rr with
       | v x => simp at h
       | pan x => rfl
   rw [key, Option.bind_none]
def WPN (K : Kx) (nt : Nat) (hp0 : Bs) (ops : List Oper) (pres : Tr Nat) (L : HV) (rest : List Oper) (i : Nat) (l : VL) (Q : V → HV → Prop) : Prop :=
 ∀ fr hp, FrV fr l → SV hp0 hp L → ∃ x q L', (∃ N, ∀ n, N ≤ n → vdpan K.C (vcall K.C K.ext K.extd n) nt ops hp pres rest i fr = some (x, q)) ∧ SV hp0 q L' ∧ Stp hp0 hp q ∧ Q x L'
def WQR (K : Kx) (nt : Nat) (hp0 : Bs) (ops : List Oper) (pres : Tr Nat) (p : Nat) (L : HV) (rest : List Oper) (i : Nat) (l : VL) : Prop :=
 ∀ fr hp n, FrV fr l → SV hp0 hp L → vqrest K.C (vcall K.C K.ext K.extd n) nt ops hp pres p rest i fr = true
section
variable {K : Kx} {nt : Nat} {hp0 : Bs} {l : VL} {df : DL} {L : HV} {Q : WQ} {ops rest : List Oper} {pres : Tr Nat} {i p : Nat} {P : V → HV → Prop}
theorem w_dpan {id : Nat} {ops : Array Oper} (ha : (apartAll ops.toList (preAll ops.toList 0 .lf) ops.toList 0 [] && edgesOk (preAll ops.toList 0 .lf) ops.toList 0) = true) (h : WPN K nt hp0 ops.toList (preAll ops.toList 0 .lf) L ops.toList 0 l fun x L' => Q (.pan x) [] df L') : WG K nt hp0 (.region id ops true) l df L Q := by
 unfold WG
 intro fr hp hf hs
 obtain ⟨x, q, L', ⟨N, h1⟩, h2, h3, h4⟩ := h fr hp hf hs
 refine ⟨.pan x, clearD ops.toList fr, df, q, [], L', ⟨N + 1, fun n m hn hm => ?_⟩, ⟨fun t v hv => by simp at hv⟩, h2, h3, h4⟩
 obtain ⟨m, rfl⟩ : ∃ k, m = k + 1 := ⟨m - 1, by omega⟩
 have e := h1 n (by omega)
 have e0 := vdpan_none (t0 := hp.t) (rds := []) e
 simp only [vcode, ha]
 rw [e0, e]
 rfl
theorem wp_pure {o : Oper} {v : V} {t : Nat} (hw : WantV ops l o) (hi : isPure o.op = true) (hd : o.dst = some t) (hlt : Nat.ble (t + 1) nt = true) (hnt : Nat.ble nt trMax = true) (h : PV K.C l o.op v) (k : WPN K nt hp0 ops pres L rest (i + 1) ((t, v) :: l) P) : WPN K nt hp0 ops pres L (o :: rest) i l P := fun fr hp hf hs => by
 unfold WantV at hw
 unfold PV at h
 obtain ⟨fr1, g1, g2⟩ := hf.set (Nat.le_of_ble_eq_true hlt) (Nat.le_of_ble_eq_true hnt) v
 obtain ⟨x, q, L', ⟨N, k1⟩, k2⟩ := k fr1 hp g2 hs
 refine ⟨x, q, L', ⟨N, fun n hn => ?_⟩, k2⟩
 have e : vq1 K.C (vcall K.C K.ext K.extd n) nt ops hp o fr = some fr1 := by simp only [vq1, hw fr hf, hi, h fr hf, Option.bind_some, hd, g1]
 simp only [vdpan, e]
 exact k1 n hn
theorem wp_rd {o : Oper} {v : V} {t : Nat} {R : List Nat} (hw : WantV ops l o) (hi : isPure o.op = false) (hr : isRd o.op = true) (hd : o.dst = some t) (hlt : Nat.ble (t + 1) nt = true) (hnt : Nat.ble nt trMax = true) (h : MV K hp0 l L o.op R v) (k : WPN K nt hp0 ops pres L rest (i + 1) ((t, v) :: l) P) : WPN K nt hp0 ops pres L (o :: rest) i l P := fun fr hp hf hs => by
 unfold WantV at hw
 unfold MV at h
 obtain ⟨fr1, g1, g2⟩ := hf.set (Nat.le_of_ble_eq_true hlt) (Nat.le_of_ble_eq_true hnt) v
 obtain ⟨e1, e2⟩ := h fr hf
 obtain ⟨e3, e4⟩ := e2 hp hs
 obtain ⟨x, q, L', ⟨N, k1⟩, k2⟩ := k fr1 hp g2 hs
 refine ⟨x, q, L', ⟨N, fun n hn => ?_⟩, k2⟩
 have hun : allL (fun h => untouched 0 h []) R = true := allL_iff.2 fun x hx => rfl
 have e5 : rdTry K.C (vcall K.C K.ext K.extd n) hp fr o.op 0 [] = some (v, R) := by
  have e6 := e4 (vcall K.C K.ext K.extd n) ⟨subHp hp.t R, hp.nx, []⟩ (fun h hh => subHp_at hh)
  simp only [rdTry, hr, e1, hun, e6, Option.bind_some]
  have : Nat.beq hp.nx hp.nx = true := by simp
  simp only [this]
 have e : vq1 K.C (vcall K.C K.ext K.extd n) nt ops hp o fr = some fr1 := by simp only [vq1, hw fr hf, hi, e5, Option.bind_some, hd, g1]
 simp only [vdpan, e]
 exact k1 n hn
theorem wp_pan {o : Oper} {tch : List Nat} (hw : WantV ops l o) (hi : isPure o.op = false) (hr : isRd o.op = false) (h : EV K hp0 l L o.op tch fun r L' => ∃ x, r = .pan x ∧ P x L') (k : WQR K nt hp0 ops pres i L rest (i + 1) l) : WPN K nt hp0 ops pres L (o :: rest) i l P := fun fr hp hf hs => by
 unfold WantV at hw
 unfold EV at h
 obtain ⟨r, hp1, L1, ⟨N, h1⟩, h2, h3, _, x, rfl, h5⟩ := h fr ⟨hp.t, hp.nx, []⟩ hf ⟨hs.nx, hs.old, hs.has, hs.one, hs.top, hs.even⟩
 refine ⟨x, ⟨hp1.t, hp1.nx, hp1.log ++ hp.log⟩, L1, ⟨N, fun n hn => ?_⟩, ⟨h2.nx, h2.old, h2.has, h2.one, h2.top, h2.even⟩, ?_, h5⟩
 ·have e0 : rdTry K.C (vcall K.C K.ext K.extd n) hp fr o.op 0 [] = none := by simp only [rdTry, hr]
  have e : vq1 K.C (vcall K.C K.ext K.extd n) nt ops hp o fr = none := by simp only [vq1, hw fr hf, hi, e0, Option.bind_some, Option.bind_none]
  simp only [vdpan, e, hw fr hf, hi, h1 n hn, k fr hp n hf hs, Option.bind_some]
 ·obtain ⟨g1, g, g2, g3, g4⟩ := h3
  simp only [List.append_nil] at g2
  exact ⟨g1, hp1.log, rfl, by rw [g2]; exact g3, by rw [g2]; exact g4⟩
theorem wq_nil : WQR K nt hp0 ops pres p L [] i l := fun fr hp n _ _ => rfl
theorem wq_dep {o : Oper} (hb : bitOf (maskOf pres i) p = true) (k : WQR K nt hp0 ops pres p L rest (i + 1) l) : WQR K nt hp0 ops pres p L (o :: rest) i l := fun fr hp n hf hs => by
 simp only [vqrest, hb]
 exact k fr hp n hf hs
end
theorem vdlist_plain {C : Cx} {call : CallF} {ops : List Oper} : ∀ (r : List Oper) (s : Sv) (u : FM), (r.all fun o => !isRec o.op && !isDefer o.op) = true → vdlist C call ops r s u = (vlist C call ops r s).bind fun q => some (q.1, q.2, u)
 | [], s, u, _ => rfl
 | o :: r, s, u, h => by
  simp only [List.all_cons, Bool.and_eq_true, Bool.not_eq_true'] at h
  obtain ⟨⟨h1, h2⟩, h3⟩ := h
  cases hw : wantV ops s.fr o with
  | none => simp only [vdlist, vlist, hw, Option.bind_none]
  | some b =>
   cases b with
   | false =>
    simp only [vdlist, vlist, hw, Option.bind_some]
    cases setD s.n s.fr o.dst undV with
    | none => rfl
    | some fr => simp only [Option.bind_some]; exact vdlist_plain r _ _ h3
   | true =>
    rw [vlist_cons C call o s h2 hw]
    simp only [vdlist, hw, Option.bind_some, h1]
    cases vop C call s.fr s.hp o.op with
    | none => rfl
    | some q =>
     obtain ⟨rr, hp'⟩ := q
     cases rr with
     | v x =>
      simp only [Option.bind_some]
      cases setD s.n s.fr o.dst x with
      | none => rfl
      | some fr => simp only [Option.bind_some]; exact vdlist_plain r _ _ h3
     | pan x => rfl
def noRecD : Code → Bool
 | .seq a b => noRecD a && noRecD b
 | .cond _ a b => noRecD a && noRecD b
 | .block _ c => noRecD c
 | .region _ ops draw => draw || ops.toList.all fun o => !isRec o.op && !isDefer o.op
 | .skip => true
 | .ret => true
 | .exit _ => true
 | _ => false
theorem vdcode_plain {C : Cx} {call : CallF} : ∀ (n : Nat) (c : Code) (s : Sv) (u : FM) (q : Ex × Sv), noRecD c = true → vcode C call n c s = some q → vdcode C call (n + 1) c s u = some (q.1, q.2, u)
 | 0, _, _, _, _, _, h => by simp [vcode] at h
 | n + 1, c, s, u, q, hc, h => by
  cases c with
  | seq a b =>
   simp only [noRecD, Bool.and_eq_true] at hc
   simp only [vcode, Option.bind_eq_some_iff] at h
   obtain ⟨⟨e, s1⟩, h1, h2⟩ := h
   show (vdcode C call (n + 1) a s u).bind _ = _
   rw [vdcode_plain n a s u _ hc.1 h1, Option.bind_some]
   cases e with
   | norm => exact vdcode_plain n b s1 u q hc.2 h2
   | exit j => obtain rfl := Option.some.inj h2; rfl
   | ret => obtain rfl := Option.some.inj h2; rfl
   | pan x => obtain rfl := Option.some.inj h2; rfl
  | cond x a b =>
   simp only [noRecD, Bool.and_eq_true] at hc
   simp only [vcode, Option.bind_eq_some_iff] at h
   obtain ⟨v, h1, h2⟩ := h
   show (evV s.fr x).bind _ = _
   rw [h1, Option.bind_some]
   cases v with
   | b t =>
    cases t with
    | false => exact vdcode_plain n b s u q hc.2 h2
    | true => exact vdcode_plain n a s u q hc.1 h2
   | _ => simp at h2
  | block id c =>
   simp only [noRecD] at hc
   simp only [vcode, Option.bind_eq_some_iff] at h
   obtain ⟨⟨e, s1⟩, h1, h2⟩ := h
   show (vdcode C call (n + 1) c s u).bind _ = _
   rw [vdcode_plain n c s u _ hc h1, Option.bind_some]
   cases e with
   | exit j =>
    simp only at h2 ⊢
    cases hj : Nat.beq j id with
    | true => rw [hj] at h2; obtain rfl := Option.some.inj h2; rfl
    | false => rw [hj] at h2; obtain rfl := Option.some.inj h2; rfl
   | norm => obtain rfl := Option.some.inj h2; rfl
   | ret => obtain rfl := Option.some.inj h2; rfl
   | pan x => obtain rfl := Option.some.inj h2; rfl
  | region id ops draw =>
   cases draw with
   | true =>
    show (vcode C call (n + 1) (.region id ops true) s).bind _ = _
    rw [h]
    rfl
   | false =>
    simp only [noRecD, Bool.false_or] at hc
    simp only [vcode, Option.bind_eq_some_iff] at h
    obtain ⟨⟨e, s1⟩, h1, h2⟩ := h
    show (vdlist C call ops.toList ops.toList s u).bind _ = _
    rw [vdlist_plain _ _ _ hc, h1, Option.bind_some, Option.bind_some]
    cases e with
    | none => obtain rfl := Option.some.inj h2; rfl
    | some x => obtain rfl := Option.some.inj h2; rfl
  | skip =>
   unfold vdcode
   simp only [h, Option.bind_some]
  | ret =>
   unfold vdcode
   simp only [h, Option.bind_some]
  | exit j =>
   unfold vdcode
   simp only [h, Option.bind_some]
  | _ => simp [noRecD] at hc
theorem dfn_rec {K : Kx} {hp0 : Bs} {L : HV} {f d id : Nat} {fn : Func} {c : Code} {o : Oper} {vs : List V} {u : FM} {R : VR → FM → HV → Prop} (hx : ∀ hp, K.extd f vs u hp = none) (hfn : K.C.F.get f = some fn) (hb : fn.body = some (.seq (.region id #[o] false) c)) (ho : isRec o.op = true) (hg : o.guard = none) (hd : o.dst = some d) (hlt : Nat.ble (d + 1) fn.ntmps = true) (hnt : Nat.ble fn.ntmps trMax = true) (hc : noRecD c = true)
  (hn : (Nat.ble vs.length fn.ntmps && Nat.ble vs.length 1000 && Nat.blt fn.ntmps trMax) = true)
  (h : WG K fn.ntmps hp0 c ((d, (drec u).1) :: argsVL 0 vs) [] L (fun e l df L' => df = [] ∧ match e with
   | .exit _ => False
   | .pan x => R (.pan x) (drec u).2 L'
   | _ => ∃ v, ResV K.C hp0 fn.results.toList l L' v ∧ R (.v v) (drec u).2 L')) : DFn K f vs u hp0 L R := fun hp hs => by
 unfold WG at h
 obtain ⟨fr, e1, e2⟩ := enter_fr (hp := hp) hn
 obtain ⟨fr1, g1, g2⟩ := e2.set (Nat.le_of_ble_eq_true hlt) (Nat.le_of_ble_eq_true hnt) (drec u).1
 obtain ⟨e, fr2, df2, hp2, l2, L2, ⟨N, h1⟩, h2, h3, h4, rfl, h6⟩ := h fr1 hp g2 hs
 have hw : ∀ fr, wantV (#[o] : Array Oper).toList fr o = some true := fun fr => by simp only [wantV, hg]
 have step : ∀ n, N + 2 ≤ n → vdcode K.C (vcall K.C K.ext K.extd n) n (.seq (.region id #[o] false) c) ⟨fr, [], hp, fn.ntmps⟩ u = some (e, ⟨fr2, [], hp2, fn.ntmps⟩, (drec u).2) := fun n hn' => by
  obtain ⟨m, rfl⟩ : ∃ k, n = k + 2 := ⟨n - 2, by omega⟩
  have e3 : vdcode K.C (vcall K.C K.ext K.extd (m + 2)) (m + 1) (.region id #[o] false) ⟨fr, [], hp, fn.ntmps⟩ u = some (.norm, ⟨fr1, [], hp, fn.ntmps⟩, (drec u).2) := by
   show (vdlist K.C _ (#[o] : Array Oper).toList [o] ⟨fr, [], hp, fn.ntmps⟩ u).bind _ = _
   simp only [vdlist, hw, Option.bind_some, ho, hd, g1]
  show (vdcode K.C (vcall K.C K.ext K.extd (m + 2)) (m + 1) (.region id #[o] false) ⟨fr, [], hp, fn.ntmps⟩ u).bind _ = _
  rw [e3, Option.bind_some]
  simp only
  rw [vdcode_plain _ _ _ _ _ hc (h1 (m + 2) m (by omega) (by omega))]
 have fin : ∀ n, N + 2 ≤ n → vdcall K.C (vcall K.C K.ext K.extd n) K.extd n f vs u hp = (match e with
   | .exit _ => none
   | .pan x => some (.pan x, (drec u).2, hp2)
   | _ => (endV K.C fn fr2 hp2).bind fun v => some (.v v, (drec u).2, hp2)) := fun n hn' => by
  simp only [vdcall, hx hp, hfn, hb, Option.bind_some, e1, step n hn']
  cases e <;> rfl
 cases e with
 | exit j => exact h6.elim
 | pan x => exact ⟨.pan x, (drec u).2, hp2, L2, ⟨N + 2, fun n hn' => fin n hn'⟩, h3, h4, h6⟩
 | norm =>
  obtain ⟨v, hv, h6⟩ := h6
  refine ⟨.v v, (drec u).2, hp2, L2, ⟨N + 2, fun n hn' => ?_⟩, h3, h4, h6⟩
  rw [fin n hn']
  have := hv fr2 hp2 h2 h3
  simp only [endV, this, Option.bind_some]
 | ret =>
  obtain ⟨v, hv, h6⟩ := h6
  refine ⟨.v v, (drec u).2, hp2, L2, ⟨N + 2, fun n hn' => ?_⟩, h3, h4, h6⟩
  rw [fin n hn']
  have := hv fr2 hp2 h2 h3
  simp only [endV, this, Option.bind_some]
section
variable {K : Kx} {nt : Nat} {hp0 : Bs} {l : VL} {df : DL} {L : HV} {Q : WQ} {ops rest : List Oper} {pres : Tr Nat} {i : Nat} {P : V → HV → Prop}
theorem ev_panic {x : Operand} {t : Nat} {v : V} {k : VR → HV → Prop} (hx : evL l x = some (.ifc t v)) (hk : k (.pan (.ifc t v)) L) : EV K hp0 l L (.panic x) [] k := by
 unfold EV
 exact fun fr hp hf hs => ⟨_, hp, L, ⟨0, fun n _ => by
  show oPanic fr hp x = _
  simp only [oPanic, hf.ev hx, Option.bind_some]⟩, hs, stp_refl _ _, tch_same, hk⟩
theorem p_panic {dst : Option Tmp} {x : Operand} {ty : TypeId} {ps : String} {af : Array Edge} {gd : Option (Nat × Bool)} {t : Nat} {v : V} (hg : WantV ops l ⟨dst, .panic x, ty, ps, af, gd⟩) (hx : evL l x = some (.ifc t v)) (h : Q (.pan (.ifc t v)) l df L) : WGL K nt hp0 ops (⟨dst, .panic x, ty, ps, af, gd⟩ :: rest) l df L Q :=
 wl_pan hg rfl (ev_panic hx ⟨_, rfl, h⟩)
theorem p_callP {dst : Option Tmp} {c : Call} {ty : TypeId} {ps : String} {af : Array Edge} {gd : Option (Nat × Bool)} {xs vs : List V} {f : Nat} {R : V → HV → Prop} {Lr : HV} (Lt : HV) (hg : WantV ops l ⟨dst, .call c, ty, ps, af, gd⟩) (ha : evLs l c.args.toList = some xs) (hc : callee c.callee l K.C xs = some (f, vs)) [pt : OutM L Lt Lr] (hC : ∀ hp, SV hp0 hp (Lt ++ Lr) → SV ⟨hp, hnds Lt⟩ hp Lt → Fn K f vs hp (hnds Lt) fun r N => ∃ x, r = .pan x ∧ R x N)
  (k : ∀ x N, R x N → Q (.pan x) l df (N ++ Lr)) : WGL K nt hp0 ops (⟨dst, .call c, ty, ps, af, gd⟩ :: rest) l df L Q :=
 wl_pan hg rfl (ev_callT (Lt := Lt) (Lr := Lr) ha hc (fun hp h => h.perm pt.h) (fun hp hs ht => hC hp (hs.perm pt.h) ht) fun r N ⟨x, e, h⟩ => ⟨x, e, k x N h⟩)
theorem wp_callP {dst : Option Tmp} {c : Call} {ty : TypeId} {ps : String} {af : Array Edge} {gd : Option (Nat × Bool)} {xs vs : List V} {f : Nat} {R : V → HV → Prop} {Lr : HV} (Lt : HV) (hg : WantV ops l ⟨dst, .call c, ty, ps, af, gd⟩) (hr : isRd (.call c) = false) (ha : evLs l c.args.toList = some xs) (hc : callee c.callee l K.C xs = some (f, vs)) [pt : OutM L Lt Lr] (hC : ∀ hp, SV hp0 hp (Lt ++ Lr) → SV ⟨hp, hnds Lt⟩ hp Lt → Fn K f vs hp (hnds Lt) fun r N => ∃ x, r = .pan x ∧ R x N)
  (hk : ∀ x N, R x N → P x (N ++ Lr)) (k : WQR K nt hp0 ops pres i L rest (i + 1) l) : WPN K nt hp0 ops pres L (⟨dst, .call c, ty, ps, af, gd⟩ :: rest) i l P :=
 wp_pan hg rfl hr (ev_callT (Lt := Lt) (Lr := Lr) ha hc (fun hp h => h.perm pt.h) (fun hp hs ht => hC hp (hs.perm pt.h) ht) fun r N ⟨x, e, h⟩ => ⟨x, e, hk x N h⟩) k
end
theorem rdOk_e {pres : Tr Nat} {i : Nat} {tch : List Nat} : RdOk pres i tch [] := fun p hp => by simp at hp
theorem rdOk_d {pres : Tr Nat} {i j : Nat} {tch R : List Nat} {rl : List (Nat × List Nat)} (h : bitOf (maskOf pres i) j = true) (k : RdOk pres i tch rl) : RdOk pres i tch ((j, R) :: rl) := fun q hq => by
 rcases List.mem_cons.1 hq with rfl | hq
 ·exact .inl h
 ·exact k q hq
theorem rdOk_n {pres : Tr Nat} {i j b : Nat} {tch : List Nat} {rl : List (Nat × List Nat)} [h : NotIn b tch] (k : RdOk pres i tch rl) : RdOk pres i tch ((j, [b]) :: rl) := fun q hq => by
 rcases List.mem_cons.1 hq with rfl | hq
 ·refine .inr fun x hx => ?_
  rw [List.mem_singleton.1 hx]
  exact h.h
 ·exact k q hq
theorem nin1 {B : Bs} {hp : Hp} {L : HV} {b b' i j : Nat} {o o' : VO} (hs : SV B hp L) [h : AtV b L o i] [h' : AtV b' L o' j] (hij : i ≠ j) : NotIn b [b'] := ⟨fun hm => by
 obtain rfl := List.mem_singleton.1 hm
 exact hij (hs.one _ _ _ _ _ h.h h'.h)⟩
/- Dr1: reading items of bytes strictly, as plain law; a cut within a row of bytes; a number's bytes. By this project. -/
abbrev Flt := Nat × Nat
def beN (n : Nat) : List UInt8 → Nat
 | [] => n
 | c :: r => beN (n * 256 + c.toNat) r
theorem beN_app : ∀ (l r : List UInt8) (n : Nat), beN n (l ++ r) = beN (beN n l) r
 | [], r, n => rfl
 | c :: l, r, n => by rw [List.cons_append, beN, beN, beN_app l r]
theorem beN_lt : ∀ (l : List UInt8) (n : Nat), beN n l < (n + 1) * 256 ^ l.length
 | [], n => by simp [beN]
 | c :: r, n => by
  rw [beN, List.length_cons, Nat.pow_succ]
  have h1 := beN_lt r (n * 256 + c.toNat)
  have h2 := c.toNat_lt
  have h3 : (n * 256 + c.toNat + 1) * 256 ^ r.length ≤ ((n + 1) * 256) * 256 ^ r.length := Nat.mul_le_mul_right _ (by omega)
  have h4 : ((n + 1) * 256) * 256 ^ r.length = (n + 1) * (256 ^ r.length * 256) := by rw [Nat.mul_assoc, Nat.mul_comm 256]
  omega
def bAt (b : List UInt8) (p : Nat) : Nat := match b[p]? with
 | some x => x.toNat
 | none => 0
theorem bAt_lt (b : List UInt8) (p : Nat) : bAt b p < 256 := by
 unfold bAt
 split
 ·rename_i x _
  exact x.toNat_lt
 ·decide
theorem bAt_get {b : List UInt8} {p : Nat} (h : p < b.length) : bAt b p = b[p].toNat := by
 unfold bAt
 rw [List.getElem?_eq_getElem h]
def lenS (b : List UInt8) (e p : Nat) : Except Flt (Nat × Nat) :=
 if bAt b p % 64 < 56 then .ok (bAt b p % 64, p + 1)
 else if e < p + 1 + (bAt b p % 64 - 55) then .error (p, 50)
 else if bAt b (p + 1) = 0 then .error (p, 52)
 else if 1048576 < beN 0 ((b.drop (p + 1)).take (bAt b p % 64 - 55)) then .error (p, 54)
 else if beN 0 ((b.drop (p + 1)).take (bAt b p % 64 - 55)) < 56 then .error (p, 52)
 else .ok (beN 0 ((b.drop (p + 1)).take (bAt b p % 64 - 55)), p + 1 + (bAt b p % 64 - 55))
theorem lenS_ok {b : List UInt8} {e p n q : Nat} (hp : p < e) (h : lenS b e p = .ok (n, q)) : p < q ∧ q ≤ e ∧ n ≤ 1048576 := by
 unfold lenS at h
 split at h
 ·simp only [Except.ok.injEq, Prod.mk.injEq] at h; omega
 ·split at h
  ·simp at h
  ·split at h
   ·simp at h
   ·split at h
    ·simp at h
    ·split at h
     ·simp at h
     ·simp only [Except.ok.injEq, Prod.mk.injEq] at h; omega
mutual
def itemS : Nat → List UInt8 → Nat → Nat → Nat → Option (Except Flt (It × Nat))
 | 0, _, _, _, _ => none
 | f + 1, b, p, e, d =>
  if p = e then some (.error (p, 50))
  else if bAt b p < 128 then some (.ok (.str [UInt8.ofNat (bAt b p)], p + 1))
  else if 192 ≤ bAt b p ∧ 80 ≤ d then some (.error (p, 53))
  else match lenS b e p with
   | .error x => some (.error x)
   | .ok (n, q) =>
    if e < q + n then some (.error (p, 50))
    else if 192 ≤ bAt b p then listS f b q (q + n) (d + 1) []
    else if n = 1 ∧ bAt b q < 128 then some (.error (p, 52))
    else some (.ok (.str ((b.drop q).take n), q + n))
def listS : Nat → List UInt8 → Nat → Nat → Nat → List It → Option (Except Flt (It × Nat))
 | 0, _, _, _, _, _ => none
 | f + 1, b, q, e, d, acc =>
  if q < e then match itemS f b q e d with
   | none => none
   | some (.error x) => some (.error x)
   | some (.ok (t, q')) => listS f b q' e d (acc ++ [t])
  else some (.ok (.list acc, q))
end
mutual
theorem itemS_at : ∀ {f : Nat} {b : List UInt8} {p e d q : Nat} {t : It}, p ≤ e → itemS f b p e d = some (.ok (t, q)) → p < q ∧ q ≤ e
 | 0, b, p, e, d, q, t, _, h => by simp [itemS] at h
 | f + 1, b, p, e, d, q, t, hp, h => by
  rw [itemS] at h
  split at h
  ·simp at h
  ·rename_i hpe
   split at h
   ·simp only [Option.some.injEq, Except.ok.injEq, Prod.mk.injEq] at h
    omega
   ·split at h
    ·simp at h
    ·split at h
     ·simp at h
     ·rename_i n q0 hl
      obtain ⟨l1, l2, _⟩ := lenS_ok (by omega) hl
      split at h
      ·simp at h
      ·split at h
       ·obtain ⟨h1, h2⟩ := listS_at (by omega) h
        omega
       ·split at h
        ·simp at h
        ·simp only [Option.some.injEq, Except.ok.injEq, Prod.mk.injEq] at h
         omega
theorem listS_at : ∀ {f : Nat} {b : List UInt8} {p e d q : Nat} {acc : List It} {t : It}, p ≤ e → listS f b p e d acc = some (.ok (t, q)) → p ≤ q ∧ q = e
 | 0, b, p, e, d, q, acc, t, _, h => by simp [listS] at h
 | f + 1, b, p, e, d, q, acc, t, hp, h => by
  rw [listS] at h
  split at h
  ·split at h
   ·simp at h
   ·simp at h
   ·rename_i t' q' hi
    obtain ⟨h1, h2⟩ := itemS_at (by omega) hi
    obtain ⟨h3, h4⟩ := listS_at h2 h
    omega
  ·simp only [Option.some.injEq, Except.ok.injEq, Prod.mk.injEq] at h
   omega
end
mutual
theorem itemS_some : ∀ (f : Nat) (b : List UInt8) (p e d : Nat), p ≤ e → 2 * (e - p) + 1 ≤ f → ∃ r, itemS f b p e d = some r
 | 0, b, p, e, d, _, h => by omega
 | f + 1, b, p, e, d, hp, h => by
  rw [itemS]
  split
  ·exact ⟨_, rfl⟩
  ·split
   ·exact ⟨_, rfl⟩
   ·split
    ·exact ⟨_, rfl⟩
    ·split
     ·exact ⟨_, rfl⟩
     ·rename_i n q hl
      obtain ⟨l1, l2, _⟩ := lenS_ok (by omega) hl
      split
      ·exact ⟨_, rfl⟩
      ·split
       ·exact listS_some f b q (q + n) (d + 1) [] (by omega) (by omega)
       ·split
        ·exact ⟨_, rfl⟩
        ·exact ⟨_, rfl⟩
theorem listS_some : ∀ (f : Nat) (b : List UInt8) (q e d : Nat) (acc : List It), q ≤ e → 2 * (e - q) + 2 ≤ f → ∃ r, listS f b q e d acc = some r
 | 0, b, q, e, d, acc, _, h => by omega
 | f + 1, b, q, e, d, acc, hq, h => by
  rw [listS]
  split
  ·obtain ⟨r, hr⟩ := itemS_some f b q e d (by omega) (by omega)
   rw [hr]
   match r, hr with
   | .error x, hr => exact ⟨_, rfl⟩
   | .ok (t, q'), hr =>
    obtain ⟨h1, h2⟩ := itemS_at hq hr
    exact listS_some f b q' e d (acc ++ [t]) h2 (by omega)
  ·exact ⟨_, rfl⟩
end
def decS (b : List UInt8) : Except Flt It :=
 if 1048576 < b.length then .error (0, 54)
 else match itemS (2 * b.length + 1) b 0 b.length 0 with
  | some (.ok (t, q)) => if q < b.length then .error (q, 51) else .ok t
  | some (.error x) => .error x
  | none => .error (0, 0)
def Sn (X : HV) (A : Option (Nat × Nat)) (cs : List V) : Prop := ∀ (B : Bs) (hp : Hp) (Lt L : HV), SV B hp (Lt ++ L) → (∀ p ∈ X, p ∈ L) → RB ⟨hp, hnds Lt⟩ A cs
theorem Sn.own {X : HV} {b o : Nat} {C cs : List V} {T : TypeId} {oo : Option Nat} {mk : Bool} (h : (some b, .cells C T oo mk) ∈ X) (hc : (C.drop o).take cs.length = cs) : Sn X (some (b, o)) cs := fun B hp Lt L hs hx => by
 obtain ⟨j, hj⟩ := List.getElem?_of_mem (hx _ h)
 exact rb_own hs hj hc
theorem Sn.nil {X : HV} : Sn X none [] := fun _ _ _ _ _ _ => RB.nil
theorem Sn.mono {X Y : HV} {A : Option (Nat × Nat)} {cs : List V} (h : Sn X A cs) (hx : ∀ p ∈ X, p ∈ Y) : Sn Y A cs := fun B hp Lt L hs hy => h B hp Lt L hs fun p hp => hy p (hx p hp)
theorem take_all {α : Type} (l : List α) : (l.drop 0).take l.length = l := by rw [List.drop_zero]; exact List.take_of_length_le (Nat.le_refl _)
mutual
def ItP (P : Option (Nat × Nat) → List V → Prop) : It → List V → Prop
 | .str bs, v => ∃ A c o, v = [.b false, .sl A bs.length c o, .sl none 0 0 false] ∧ P A (bs.map byV) ∧ bs.length ≤ c
 | .list l, v => ∃ A c o vs, v = [.b true, .sl none 0 0 false, .sl A l.length c o] ∧ P A vs.flatten ∧ ItPs P l vs
def ItPs (P : Option (Nat × Nat) → List V → Prop) : List It → List (List V) → Prop
 | [], vs => vs = []
 | t :: r, vs => ∃ v ws, vs = v :: ws ∧ ItP P t v ∧ ItPs P r ws
end
mutual
theorem itP_mono {P P' : Option (Nat × Nat) → List V → Prop} (hm : ∀ A cs, P A cs → P' A cs) : ∀ (t : It) (v : List V), ItP P t v → ItP P' t v
 | .str bs, v, h => by
  rw [ItP] at h ⊢
  obtain ⟨A, c, o, h1, h2, h3⟩ := h
  exact ⟨A, c, o, h1, hm _ _ h2, h3⟩
 | .list l, v, h => by
  rw [ItP] at h ⊢
  obtain ⟨A, c, o, vs, h1, h2, h3⟩ := h
  exact ⟨A, c, o, vs, h1, hm _ _ h2, itPs_mono hm l vs h3⟩
theorem itPs_mono {P P' : Option (Nat × Nat) → List V → Prop} (hm : ∀ A cs, P A cs → P' A cs) : ∀ (l : List It) (vs : List (List V)), ItPs P l vs → ItPs P' l vs
 | [], vs, h => by rw [ItPs] at h ⊢; exact h
 | t :: r, vs, h => by
  rw [ItPs] at h ⊢
  obtain ⟨v, ws, h0, h1, h2⟩ := h
  exact ⟨v, ws, h0, itP_mono hm t v h1, itPs_mono hm r ws h2⟩
end
mutual
theorem itP_r {B : Bs} {P : Option (Nat × Nat) → List V → Prop} (hm : ∀ A cs, P A cs → RB B A cs) : ∀ (t : It) (v : List V), ItP P t v → ItR B t v
 | .str bs, v, h => by
  rw [ItP] at h
  rw [ItR]
  obtain ⟨A, c, o, h1, h2, _⟩ := h
  exact ⟨A, c, o, h1, hm _ _ h2⟩
 | .list l, v, h => by
  rw [ItP] at h
  rw [ItR]
  obtain ⟨A, c, o, vs, h1, h2, h3⟩ := h
  exact ⟨A, c, o, vs, h1, hm _ _ h2, itPs_r hm l vs h3⟩
theorem itPs_r {B : Bs} {P : Option (Nat × Nat) → List V → Prop} (hm : ∀ A cs, P A cs → RB B A cs) : ∀ (l : List It) (vs : List (List V)), ItPs P l vs → ItRs B l vs
 | [], vs, h => by rw [ItPs] at h; rw [ItRs]; exact h
 | t :: r, vs, h => by
  rw [ItPs] at h
  rw [ItRs]
  obtain ⟨v, ws, h0, h1, h2⟩ := h
  exact ⟨v, ws, h0, itP_r hm t v h1, itPs_r hm r ws h2⟩
end
theorem itPs_snoc {P : Option (Nat × Nat) → List V → Prop} {t : It} {v : List V} (k : ItP P t v) : ∀ {l : List It} {vs : List (List V)}, ItPs P l vs → ItPs P (l ++ [t]) (vs ++ [v])
 | [], vs, h => by
  rw [ItPs] at h
  subst h
  rw [List.nil_append, List.nil_append, ItPs]
  exact ⟨v, [], rfl, k, by rw [ItPs]⟩
 | x :: r, vs, h => by
  rw [ItPs] at h
  obtain ⟨w, ws, rfl, h1, h2⟩ := h
  rw [List.cons_append, List.cons_append, ItPs]
  exact ⟨w, ws ++ [v], rfl, h1, itPs_snoc k h2⟩
abbrev ItX (X : HV) (t : It) (v : List V) : Prop := ItP (Sn X) t v
abbrev ItXs (X : HV) (l : List It) (vs : List (List V)) : Prop := ItPs (Sn X) l vs
section
variable {K : Kx} {nt : Nat} {hp0 : Bs} {l : VL} {df : DL} {L : HV} {Q : WQ} {t t' : TypeId} {a b : Operand}
theorem m_shlU {x : Int} {k : IntKind} {p : Int} {m n : Nat} (hx : evL l a = some (.i .u64 x)) (hy : evL l b = some (.i k p)) [hm : CastN x m] [hn : CastN p n] (h : n ≤ 64) (h2 : m * 2 ^ n < 18446744073709551616) : MVO K hp0 l L (.binOp .shl t a b t') (.i .u64 ((m * 2 ^ n : Nat) : Int)) := by
 refine mv_sh hx hy ?_
 rw [hn.h, hm.h]
 show some (V.i .u64 (IntKind.u64.wrap ((m : Int) * 2 ^ min n IntKind.u64.bits))) = _
 rw [show min n IntKind.u64.bits = n by simp [IntKind.bits]; omega]
 have e : ((m : Int) * 2 ^ n) = ((m * 2 ^ n : Nat) : Int) := by norm_cast
 rw [e, wrapU64 h2]
theorem m_orU {x y : Int} {m n : Nat} (hx : evL l a = some (.i .u64 x)) (hy : evL l b = some (.i .u64 y)) [hm : CastN x m] [hn : CastN y n] (h1 : m < 18446744073709551616) (h2 : n < 18446744073709551616) : MVO K hp0 l L (.binOp .or t a b t') (.i .u64 ((m ||| n : Nat) : Int)) := by
 obtain rfl := hm.h
 obtain rfl := hn.h
 refine mv_int hx hy ?_
 show some (V.i .u64 (IntKind.u64.wrap _)) = _
 have of : ∀ z : Nat, z < 18446744073709551616 → (BitVec.ofInt IntKind.u64.bits (z : Int)).toNat = z := fun z hz => by
  simp only [IntKind.bits, BitVec.toNat_ofInt]
  omega
 rw [BitVec.toNat_or, of m h1, of n h2, wrapU64 (Nat.or_lt_two_pow (n := 64) h1 h2)]
theorem or_shl {m c : Nat} (h : c < 256) : m * 2 ^ 8 ||| c = m * 256 + c := by
 have := Nat.two_pow_add_eq_or_of_lt (i := 8) h m
 rw [Nat.mul_comm m (2 ^ 8), ← this]
theorem m_convI {s : TypeId} {q : IntKind} {p : Int} {n : Nat} [hs : IntV K.C s q] [ht : IntV K.C t .i64] (hx : evL l a = some (.i q p)) [hn : CastN p n] (h : n < 9223372036854775808) : MVO K hp0 l L (.convert s t a) (.i .i64 (n : Int)) := by
 have := m_conv (K := K) (hp0 := hp0) (L := L) (s := s) (t := t) hx
 rw [hn.h, IntWalk.i64_in _ (by omega)] at this
 exact this
theorem m_slD {e : TypeId} {lo hi : Option Operand} {b o m c i j : Nat} {op : Bool} [hS : SliceV K.C t e] [hs : SizeV K.C e 1] (hx : evL l a = some (.sl (some (b, o)) m c op)) (hlo : BoundL l lo 0 i) (hhi : BoundL l hi m j) (h1 : i ≤ j) (h2 : j ≤ c) (h3 : i < c) : MV K hp0 l L (.slice t a lo hi none) [] (.sl (some (b, o + i)) (j - i) (c - i) op) := by
 have := m_slg (K := K) (hp0 := hp0) (L := L) (t := t) (e := e) hx hlo hhi h1 h2 (fun _ => h3) (fun _ => ⟨_, rfl⟩)
 rw [Option.map_some, offV_ne (by omega), Nat.mul_one] at this
 exact this
theorem ev_slE2 {t e : TypeId} {x : Operand} {lo hi : Option Operand} {b o m : Nat} {k : VR → HV → Prop} [hS : SliceV K.C t e] [hz : SizeV K.C e 1] (hx : evL l x = some (.sl (some (b, o)) m m true)) (hlo : BoundL l lo 0 m) (hhi : BoundL l hi m m) (h0 : 0 < m) (hk : ∀ b', k (.v (.sl (some (b', 0)) 0 0 true)) L) : EV K hp0 l L (.slice t x lo hi none) [] k := by
 obtain ⟨ti, h3, h4⟩ := hS.h
 obtain ⟨te, h5, h6⟩ := hz.h
 unfold EV
 intro fr hp hf hs
 refine ⟨.v (.sl (some (hp.nx, 0)) 0 0 true), ⟨hp.t, hp.nx + 2, hp.log⟩, L, ⟨0, fun N _ => ?_⟩, ⟨Nat.le_trans hs.nx (Nat.le_add_right _ _), hs.old, fun i b o hi => ?_, hs.one, fun x h1 h2 => hs.top x (Nat.le_trans (Nat.le_add_right _ _) h1) h2, nxOk_two hs.even⟩, ⟨Nat.le_add_right _ _, [], rfl, fun x hx => by simp at hx, fun _ _ => rfl⟩, ⟨fun x h => by simp at h, fun _ h h' => absurd h h'⟩, hk hp.nx⟩
 ·show oSlice K.C fr hp t x lo hi none = _
  have e0 : Nat.beq m 0 = false := beq_f (by omega)
  have e1 : Nat.blt 0 m = true := by rw [Nat.blt_eq]; exact h0
  have e2 : (Nat.beq (Nat.mod hp.nx 2) 0 && Nat.ble gMax hp.nx) = true := hs.even
  simp only [Bool.and_eq_true] at e2
  simp only [oSlice, hf.ev hx, Option.bind_some, vslice, vslEnd, h3, hlo fr hf, h4, h5, hhi fr hf, leO_t (Nat.le_refl m), e0, e1, e2.1, e2.2, Nat.beq_refl, Bool.and_self, ret2]
 ·have := hs.has i b o hi
  exact ⟨this.1, this.2.1, Nat.lt_of_lt_of_le this.2.2 (Nat.le_add_right _ _)⟩
theorem e_slH {t e : TypeId} {x : Operand} {lo hi : Option Operand} {A : Option (Nat × Nat)} {cs : List V} {m c i j : Nat} {op : Bool} {k : VR → HV → Prop} [hS : SliceV K.C t e] [hs : SizeV K.C e 1] (hx : evL l x = some (.sl A m c op)) (hlo : BoundL l lo 0 i) (hhi : BoundL l hi m j) (h0 : 0 < i) (h1 : i ≤ j) (h2 : j ≤ m) (h3 : m ≤ c) (hA : RB hp0 A cs) (hl : cs.length = m) (hk : ∀ a' c', (RB hp0 (some a') ((cs.drop i).take (j - i)) ∨ j = i) → j - i ≤ c' → k (.v (.sl (some a') (j - i) c' op)) L) : EV K hp0 l L (.slice t x lo hi none) [] k := by
 have hsome : ∃ a, A = some a := by
  cases hq : cs with
  | nil => rw [hq] at hl; simp at hl; omega
  | cons v r =>
   obtain ⟨b, o, e⟩ := rv_some (by rw [← hq]; exact hA.1.rv)
   exact ⟨_, e⟩
 obtain ⟨⟨b, o⟩, rfl⟩ := hsome
 by_cases g : op = true → i < c
 ·refine ev_mv (m_slg hx hlo hhi h1 (by omega) g (fun _ => ⟨_, rfl⟩)) (hk _ _ (.inl ?_) (by omega))
  exact RB.take (hA.off (by omega)) _
 ·have g1 : op = true := by
   cases op with
   | true => rfl
   | false => exact absurd (fun h => by simp at h) g
  subst g1
  have g2 : ¬ i < c := fun h => g fun _ => h
  obtain rfl : j = i := by omega
  obtain rfl : j = m := by omega
  obtain rfl : c = j := by omega
  refine ev_slE2 hx hlo hhi h0 fun b' => ?_
  have := hk (b', 0) 0 (.inr rfl) (by omega)
  rw [Nat.sub_self] at this
  exact this
end
/- Dr2: the reader's head. By this project. -/
abbrev flt (x : Flt) : V := .ifc 87 (.agg [.i .i64 (x.1 : Nat), .i .i64 (x.2 : Nat)])
abbrev rdO (br : Nat) (s : V) (p : Nat) : Option Nat × VO := (some br, cellsO [s, .i .i64 (p : Nat)] 106)
theorem byte_at {b : List UInt8} {p : Nat} (h : p < b.length) : (b.map byV)[p]? = some (.i .u8 (bAt b p : Nat)) := by
 rw [List.getElem?_map, List.getElem?_eq_getElem h, bAt_get h]
 rfl
theorem rb_spot {B : Bs} {A : Option (Nat × Nat)} {b : List UInt8} (h : RB B A (b.map byV)) (hb : 0 < b.length) : ∃ a o, A = some (a, o) := by
 cases hq : b with
 | nil => rw [hq] at hb; simp at hb
 | cons v r =>
  rw [hq] at h
  exact rv_some h.1.rv
theorem td_st {ti : TI} {fs : List (Nat × Nat)} (h : ti.d = .st fs) : ti.d ≠ .ifc := by
 rw [h]
 intro e
 cases e
set_option maxHeartbeats 16000000 in
theorem rlen_d {b : List UInt8} {A : Option (Nat × Nat)} {c : Nat} {o : Bool} {p e br : Nat} {hp : Hp} (h0 : SV ⟨hp, [br]⟩ hp [rdO br (.sl A b.length c o) p]) (hb : RB ⟨hp, [br]⟩ A (b.map byV)) (hc : b.length ≤ c) (hpe : p < e) (he : e ≤ b.length) (hl : b.length ≤ 1048576) :
  Fn kxD 70 [.p (some (br, 0)), .i .i64 (e : Nat)] hp [br] fun r N => match lenS b e p with
   | .error x => ∃ y, r = .pan y ∧ y = flt x
   | .ok (n, q) => ∃ u, r = .v u ∧ u = .i .i64 (n : Nat) ∧ N = [rdO br (.sl A b.length c o) q] := by
 obtain ⟨ba, oa, rfl⟩ := rb_spot hb (by omega)
 have hx := byte_at (b := b) (p := p) (by omega)
 have hx4 := bAt_lt b p
 unfold lenS
 refine fn_of_w h0 (fun _ => rfl) (fn := Try.f70) (by kernel_rfl) rfl rfl ?_
 refine wo ?_
 apply wn; iterate 5 exact rfl
 refine p_ia rfl rfl (by omega)
 apply wm; iterate 5 exact rfl
 refine m_ldN (j := p) rfl hb.1 hb.2 rfl hx
 apply wm; iterate 5 exact rfl
 refine m_convI rfl (by omega)
 apply wm; iterate 5 exact rfl
 refine m_remN rfl rfl (by decide)
 refine wo ?_
 apply p_do; exact (vwant_n rfl); exact rfl; exact rfl
 refine e_st (C' := [.sl (some (ba, oa)) b.length c o, .i .i64 ((p + 1 : Nat) : Int)]) rfl rfl rfl (Nat.le_of_ble_eq_true rfl) rfl ⟨_, rfl, ?_⟩
 refine wo ?_
 by_cases g : bAt b p % 64 < 56
 ·rw [if_pos g]
  apply wm; iterate 5 exact rfl
  refine mv_int (v := .b true) rfl rfl (vi_lssT (by omega))
  refine wo ?_
  exact w_ret (wend_ret (vres1 (rv_tmp rfl)) ⟨_, rfl, rfl, rfl⟩)
 rw [if_neg g]
 apply wm; iterate 5 exact rfl
 refine mv_int (v := .b false) rfl rfl (vi_lssF (by omega))
 refine wo ?_
 generalize hm : bAt b p % 64 = m at *
 have hm64 : m < 64 := by omega
 by_cases g1 : e < p + 1 + (m - 55)
 ·rw [if_pos g1]
  apply wm; iterate 5 exact rfl
  refine mv_int (v := .b true) rfl rfl (vi_gtrT (by omega))
  refine wo ?_
  apply wn; iterate 5 exact rfl
  refine p_buildS (C := [.i .i64 (p : Nat), .i .i64 50]) (.cons rfl rfl rfl rfl (Nat.le_of_ble_eq_true rfl) (.cons rfl rfl rfl rfl (Nat.le_of_ble_eq_true rfl) .nil)) rfl
  apply wn; iterate 5 exact rfl
  refine pv_mkif (td_st rfl) rfl
  refine p_panic (vwant_n rfl) rfl ?_
  exact wend_pan ⟨_, rfl, rfl⟩
 rw [if_neg g1]
 apply wm; iterate 5 exact rfl
 refine mv_int (v := .b false) rfl rfl (vi_gtrF (by omega))
 refine wo ?_
 have hx1 := byte_at (b := b) (p := p + 1) (by omega)
 have hy4 := bAt_lt b (p + 1)
 obtain ⟨k, hk⟩ : ∃ k, k = m - 56 + 1 := ⟨_, rfl⟩
 rw [show m - 55 = k by omega, ← hk]
 apply dn; iterate 5 exact rfl
 refine p_ia rfl rfl (by omega)
 apply dm; iterate 6 exact rfl
 refine m_ldN (j := p + 1) rfl hb.1 hb.2 rfl hx1
 by_cases g2 : bAt b (p + 1) = 0
 ·rw [if_pos g2]
  apply dm; iterate 6 exact rfl
  refine mv_int (v := .b true) rfl rfl (vi_eqlT (by omega))
  refine wo ?_
  apply wn; iterate 5 exact rfl
  refine p_buildS (C := [.i .i64 (p : Nat), .i .i64 52]) (.cons rfl rfl rfl rfl (Nat.le_of_ble_eq_true rfl) (.cons rfl rfl rfl rfl (Nat.le_of_ble_eq_true rfl) .nil)) rfl
  apply wn; iterate 5 exact rfl
  refine pv_mkif (td_st rfl) rfl
  refine p_panic (vwant_n rfl) rfl ?_
  exact wend_pan ⟨_, rfl, rfl⟩
 rw [if_neg g2]
 apply dm; iterate 6 exact rfl
 refine mv_int (v := .b false) rfl rfl (vi_eqlF (by omega))
 refine wo ?_
 iterate 4 ((try refine w_seq ?_); refine wo ?_)
 refine yX (m_slD (i := p + 1) (j := p + 1 + k) rfl (bl_some rfl) (bl_some rfl) (by omega) (by omega) (by omega)) ?_
 rw [show p + 1 + k - (p + 1) = k by omega]
 refine wo ?_
 iterate 4 ((try refine w_seq ?_); refine wo ?_)
 refine w_loop (ι := Nat) (fun i => [(80, .i .i64 (i : Nat)), (79, .i .i64 (k : Nat)), (78, .sl (some (ba, oa + (p + 1))) k (c - (p + 1)) o), (8, .i .u64 (beN 0 ((b.drop (p + 1)).take i) : Nat)), (7, .i .i64 (k : Nat)), (5, .i .i64 (p : Nat)), (1, .i .i64 (e : Nat)), (0, .p (some (br, 0)))]) (fun i => [rdO br (.sl (some (ba, oa)) b.length c o) (p + 1)]) (fun i => i ≤ k) (fun i => k - i) 0 (Nat.zero_le _) ⟨rfl, rfl, rfl, rfl, rfl, rfl, rfl, rfl, trivial⟩ (fun hp h => h) ?_
 intro i hi
 try dsimp only at hi ⊢
 refine wo ?_
 by_cases g3 : i < k
 ·have hxi := byte_at (b := b) (p := p + 1 + i) (by omega)
  have hz4 := bAt_lt b (p + 1 + i)
  have hbd : beN 0 ((b.drop (p + 1)).take i) < 72057594037927936 := by
   have h1 := beN_lt ((b.drop (p + 1)).take i) 0
   have h2 : ((b.drop (p + 1)).take i).length ≤ 7 := by rw [List.length_take]; omega
   have h3 : 256 ^ ((b.drop (p + 1)).take i).length ≤ 256 ^ 7 := Nat.pow_le_pow_right (by decide) h2
   have h4 : (256 : Nat) ^ 7 = 72057594037927936 := rfl
   omega
  have hnx : beN 0 ((b.drop (p + 1)).take (i + 1)) = beN 0 ((b.drop (p + 1)).take i) * 256 + bAt b (p + 1 + i) := by
   rw [List.take_succ_eq_append_getElem (by rw [List.length_drop]; omega), beN_app, beN, beN, List.getElem_drop, bAt_get]
  apply wm; iterate 5 exact rfl
  refine mv_int (v := .b true) rfl rfl (vi_lssT (by omega))
  refine wo ?_
  apply wn; iterate 5 exact rfl
  refine p_ia rfl rfl g3
  apply wm; iterate 5 exact rfl
  refine m_ldN (j := p + 1 + i) rfl hb.1 hb.2 (by omega) hxi
  refine wo ?_
  apply wm; iterate 5 exact rfl
  refine m_shlU rfl rfl (by decide) (by omega)
  refine wo ?_
  apply wm; iterate 5 exact rfl
  refine m_convU rfl (by omega)
  apply wm; iterate 5 exact rfl
  refine m_orU rfl rfl (by omega) (by omega)
  rw [or_shl hz4, ← hnx]
  refine wo ?_
  exact ⟨rfl, i + 1, g3, by (try dsimp only); omega, ⟨rfl, rfl, rfl, rfl, rfl, rfl, rfl, rfl, trivial⟩, fun hp h => h⟩
 apply wm; iterate 5 exact rfl
 refine mv_int (v := .b false) rfl rfl (vi_lssF (by omega))
 refine wo ?_
 refine w_exit ?_
 obtain rfl : i = k := by omega
 have hbd : beN 0 ((b.drop (p + 1)).take i) < 18446744073709551616 := by
  have h1 := beN_lt ((b.drop (p + 1)).take i) 0
  have h2 : ((b.drop (p + 1)).take i).length ≤ 8 := by rw [List.length_take]; omega
  have h3 : 256 ^ ((b.drop (p + 1)).take i).length ≤ 256 ^ 8 := Nat.pow_le_pow_right (by decide) h2
  have h4 : (256 : Nat) ^ 8 = 18446744073709551616 := rfl
  omega
 generalize beN 0 ((b.drop (p + 1)).take i) = n at *
 refine wo ?_
 apply p_do; exact (vwant_n rfl); exact rfl; exact rfl
 refine e_st (C' := [.sl (some (ba, oa)) b.length c o, .i .i64 ((p + 1 + i : Nat) : Int)]) rfl rfl rfl (Nat.le_of_ble_eq_true rfl) rfl ⟨_, rfl, ?_⟩
 refine wo ?_
 by_cases g4 : 1048576 < n
 ·rw [if_pos g4]
  apply wm; iterate 5 exact rfl
  refine mv_int (v := .b true) rfl rfl (vi_gtrT (by omega))
  refine wo ?_
  apply wn; iterate 5 exact rfl
  refine p_buildS (C := [.i .i64 (p : Nat), .i .i64 54]) (.cons rfl rfl rfl rfl (Nat.le_of_ble_eq_true rfl) (.cons rfl rfl rfl rfl (Nat.le_of_ble_eq_true rfl) .nil)) rfl
  apply wn; iterate 5 exact rfl
  refine pv_mkif (td_st rfl) rfl
  refine p_panic (vwant_n rfl) rfl ?_
  exact wend_pan ⟨_, rfl, rfl⟩
 rw [if_neg g4]
 apply wm; iterate 5 exact rfl
 refine mv_int (v := .b false) rfl rfl (vi_gtrF (by omega))
 refine wo ?_
 by_cases g5 : n < 56
 ·rw [if_pos g5]
  apply wm; iterate 5 exact rfl
  refine mv_int (v := .b true) rfl rfl (vi_lssT (by omega))
  refine wo ?_
  apply wn; iterate 5 exact rfl
  refine p_buildS (C := [.i .i64 (p : Nat), .i .i64 52]) (.cons rfl rfl rfl rfl (Nat.le_of_ble_eq_true rfl) (.cons rfl rfl rfl rfl (Nat.le_of_ble_eq_true rfl) .nil)) rfl
  apply wn; iterate 5 exact rfl
  refine pv_mkif (td_st rfl) rfl
  refine p_panic (vwant_n rfl) rfl ?_
  exact wend_pan ⟨_, rfl, rfl⟩
 rw [if_neg g5]
 apply wm; iterate 5 exact rfl
 refine mv_int (v := .b false) rfl rfl (vi_lssF (by omega))
 refine wo ?_
 apply wm; iterate 5 exact rfl
 refine m_convI rfl (by omega)
 refine wo ?_
 exact w_ret (wend_ret (vres1 (rv_tmp rfl)) ⟨_, rfl, rfl, rfl⟩)
/- Js6: memory told in another order, by counting; the journal's may, text, number. By this project. -/
instance (priority := 49) {x : Option Nat × VO} {N L L' : HV} [k : SetV L 0 x L'] : SetV (N ++ L) N.length x (N ++ L') := ⟨by rw [List.set_append_right _ _ (Nat.le_refl _), Nat.sub_self, k.h]⟩
open Classical in
noncomputable def ind {α : Type} (a x : α) : Nat := if x = a then 1 else 0
noncomputable def cnt {α : Type} (a : α) : List α → Nat
 | [] => 0
 | x :: r => ind a x + cnt a r
theorem cnt_nil {α : Type} {a : α} : cnt a [] = 0 := rfl
theorem cnt_cons {α : Type} {a x : α} {r : List α} : cnt a (x :: r) = ind a x + cnt a r := rfl
theorem cnt_app {α : Type} {a : α} : ∀ {l r : List α}, cnt a (l ++ r) = cnt a l + cnt a r
 | [], r => by rw [List.nil_append, cnt_nil, Nat.zero_add]
 | x :: l, r => by rw [List.cons_append, cnt_cons, cnt_cons, cnt_app, Nat.add_assoc]
theorem ind_self {α : Type} {a : α} : ind a a = 1 := if_pos rfl
theorem cnt_pos {α : Type} {a : α} : ∀ {l : List α}, 0 < cnt a l → a ∈ l
 | [], h => by rw [cnt_nil] at h; omega
 | x :: r, h => by
  rw [cnt_cons] at h
  by_cases e : x = a
  ·subst e; simp
  ·have : ind a x = 0 := if_neg e
   exact List.mem_cons_of_mem _ (cnt_pos (by omega))
theorem mem_cnt {α : Type} {a : α} : ∀ {l : List α}, a ∈ l → 0 < cnt a l
 | x :: r, h => by
  rw [cnt_cons]
  rcases List.mem_cons.1 h with rfl | h
  ·rw [ind_self]; omega
  ·have := mem_cnt h; omega
theorem cnt_two {α : Type} {a : α} : ∀ {l : List α} {i j : Nat}, i < j → l[i]? = some a → l[j]? = some a → 2 ≤ cnt a l
 | x :: r, 0, j + 1, _, h1, h2 => by
  simp only [List.getElem?_cons_zero, Option.some.injEq] at h1
  subst h1
  rw [cnt_cons, ind_self]
  have := mem_cnt (List.mem_of_getElem? (show r[j]? = some x by simpa using h2))
  omega
 | x :: r, i + 1, j + 1, h, h1, h2 => by
  rw [cnt_cons]
  have := cnt_two (l := r) (i := i) (j := j) (by omega) (by simpa using h1) (by simpa using h2)
  omega
 | [], _, _, _, h1, _ => by simp at h1
theorem two_cnt {α : Type} {a : α} : ∀ {l : List α}, 2 ≤ cnt a l → ∃ i j : Nat, i < j ∧ l[i]? = some a ∧ l[j]? = some a
 | [], h => by rw [cnt_nil] at h; omega
 | x :: r, h => by
  rw [cnt_cons] at h
  by_cases e : x = a
  ·subst e
   rw [ind_self] at h
   obtain ⟨j, hj⟩ := List.getElem?_of_mem (cnt_pos (show 0 < cnt x r by omega))
   exact ⟨0, j + 1, by omega, rfl, by simpa using hj⟩
  ·have : ind a x = 0 := if_neg e
   obtain ⟨i, j, h1, h2, h3⟩ := two_cnt (show 2 ≤ cnt a r by omega)
   exact ⟨i + 1, j + 1, by omega, by simpa using h2, by simpa using h3⟩
theorem SV.le {B : Bs} {hp : Hp} {L L' : HV} (h : SV B hp L) (hc : ∀ a, cnt a L' ≤ cnt a L := by intro a; (try simp only [cnt_app, cnt_cons, cnt_nil, cellsO, rowO]); omega) : SV B hp L' := by
 have hm : ∀ a ∈ L', a ∈ L := fun a ha => cnt_pos (Nat.lt_of_lt_of_le (mem_cnt ha) (hc a))
 have key : ∀ (i j b : Nat) (o o' : VO), i < j → L'[i]? = some (some b, o) → L'[j]? = some (some b, o') → False := fun i j b o o' hij hi hj => by
  obtain ⟨p, hp1⟩ := List.getElem?_of_mem (hm _ (List.mem_of_getElem? hi))
  obtain ⟨q, hq1⟩ := List.getElem?_of_mem (hm _ (List.mem_of_getElem? hj))
  have e := h.one _ _ _ _ _ hp1 hq1
  subst e
  rw [hp1] at hq1
  simp only [Option.some.injEq, Prod.mk.injEq, true_and] at hq1
  subst hq1
  have h2 := cnt_two hij hi hj
  obtain ⟨i', j', h3, h4, h5⟩ := two_cnt (Nat.le_trans h2 (hc _))
  have := h.one _ _ _ _ _ h4 h5
  omega
 refine ⟨h.nx, h.old, fun i b o hi => ?_, fun i j b o o' hi hj => ?_, h.top, h.even⟩
 ·obtain ⟨j, hj⟩ := List.getElem?_of_mem (hm _ (List.mem_of_getElem? hi))
  exact h.has j b o hj
 ·rcases Nat.lt_trichotomy i j with g | g | g
  ·exact (key i j b o o' g hi hj).elim
  ·exact g
  ·exact (key j i b o' o g hj hi).elim
theorem Fn.dropC {K : Kx} {f : Nat} {args : List V} {hp : Hp} {T : List Nat} {R : VR → HV → Prop} (h : Fn K f args hp T fun r N => ∃ N', (∀ a, cnt a N' ≤ cnt a N) ∧ R r N') : Fn K f args hp T R := by
 unfold Fn at *
 obtain ⟨r, hp', h1, N, h2, h3, N', hc, h4⟩ := h
 exact ⟨r, hp', h1, N', h2.le hc, h3, h4⟩
theorem cle {L' L : HV} (hc : ∀ a, cnt a L' ≤ cnt a L := by intro a; (try simp only [cnt_app, cnt_cons, cnt_nil, cellsO, rowO]); omega) : ∀ a, cnt a L' ≤ cnt a L := hc
/- Js7: a record's body: what it is; the journal's. By this project. -/
theorem strB_len {bs : List UInt8} (h : bs.length < 18446744073709551616) : (strB bs).length ≤ bs.length + 9 := by
 have h9 := headB_len 128 h
 by_cases g : ∃ b, bs = [b] ∧ b.toNat < 128
 ·obtain ⟨b, rfl, g2⟩ := g
  rw [strB_one g2]; simp
 ·rw [strB_many fun b e h => g ⟨b, e, h⟩, List.length_append]
  omega
theorem depths_le : ∀ {l : List It} {k : Nat}, (∀ t ∈ l, depth t ≤ k) → depths l ≤ k
 | [], k, _ => by rw [depths]; exact Nat.zero_le _
 | t :: r, k, h => by
  rw [depths]
  exact Nat.max_le.2 ⟨h t (by simp), depths_le fun t ht => h t (List.mem_cons_of_mem _ ht)⟩
def SeenI (B : Bs) (X : HV) (l : List It) (vs : List (List V)) : Prop := ∀ hp L, SV B hp L → (∀ p ∈ X, p ∈ L) → ItRs ⟨hp, []⟩ l vs
theorem SeenI.nil {B : Bs} : SeenI B [] [] [] := fun _ _ _ _ => rfl
theorem itR_list {B : Bs} {l : List It} {A : Option (Nat × Nat)} {n c : Nat} {o : Bool} {vs : List (List V)} (h : RB B A vs.flatten) (k : ItRs B l vs) (hn : l.length = n) : ItR B (.list l) [.b true, .sl none 0 0 false, .sl A n c o] := by
 subst hn
 rw [ItR]
 exact ⟨A, c, o, vs, rfl, h, k⟩
theorem flat_snoc {α : Type} {vs : List (List α)} {v : List α} : (vs ++ [v]).flatten = vs.flatten ++ v := by simp
end Go.Proofs.Ytabpegdalmagpaa
