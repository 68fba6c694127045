/- We: the same rules, by what a seat's table of types tells as instances; bytes. By this project. -/
import Derived.Test.YtaahfdjobpbpjaaGreatDoorWd
set_option linter.unusedVariables false
set_option linter.unusedSectionVars false
set_option linter.unusedSimpArgs false
namespace Go.Proofs.YtaahfdjobpbpjaaGreatDoor
open Go.RowKit Go.Extern.Stop

class FieldV (C : Cx) (t : TypeId) (i : Nat) (o e : outParam Nat) : Prop where h : ∃ ti fs, tiV C t = some ti ∧ ti.d = .st fs ∧ fs[i]? = some (o, e)
class SizeV (C : Cx) (t : TypeId) (s : outParam Nat) : Prop where h : ∃ ti, tiV C t = some ti ∧ ti.size = s
class RowV (C : Cx) (t : TypeId) (b : outParam Bool) : Prop where h : ∃ ti, tiV C t = some ti ∧ ti.d.row = b
class SliceV (C : Cx) (t : TypeId) (e : outParam TypeId) : Prop where h : ∃ ti, tiV C t = some ti ∧ ti.d = .sl e
class ArrV (C : Cx) (t : TypeId) (n : outParam Nat) (e : outParam TypeId) : Prop where h : ∃ ti, tiV C t = some ti ∧ ti.d = .arr n e
class IntV (C : Cx) (t : TypeId) (k : outParam IntKind) : Prop where h : ∃ ti, tiV C t = some ti ∧ ti.d = .int k
class StrV (C : Cx) (t : TypeId) : Prop where h : ∃ ti, tiV C t = some ti ∧ ti.d = .str
class GrowV (C : Cx) (t : TypeId) : Prop where h : ∃ ti, tiV C t = some ti ∧ growOk ti = true
class ZeroV (C : Cx) (t : TypeId) (z : outParam V) : Prop where h : ∃ ti, tiV C t = some ti ∧ ti.z = some z
theorem fieldV_of {C : Cx} {t i o e : Nat} (ti : TI) (fs : List (Nat × TypeId)) (h1 : tiV C t = some ti) (h2 : ti.d = .st fs) (h3 : fs[i]? = some (o, e)) : FieldV C t i o e := ⟨ti, fs, h1, h2, h3⟩
def noLoopW : Code → Bool
  | .loop _ => false
  | .scope _ => false
  | .seq a b => noLoopW a && noLoopW b
  | .cond _ a b => noLoopW a && noLoopW b
  | .block _ c => noLoopW c
  | _ => true
/-- A number that counts. -/
class CastN (p : Int) (a : outParam Nat) : Prop where h : p = (a : Int)
instance (priority := high) {a : Nat} : CastN (a : Int) a := ⟨rfl⟩
instance {n : Nat} : CastN (no_index (OfNat.ofNat n)) (OfNat.ofNat n) := ⟨rfl⟩
section
variable {K : Kx} {nt : Nat} {hp0 : Bs} {hp : Hp} {l : VL} {df : DL} {L L0 : HV} {Q : WQ} {A B : Option (Nat × Nat)} {cs : List V}
theorem p_fa {t e : TypeId} {x : Operand} {i b o f s : Nat} [hF : FieldV K.C t i f e] [hs : SizeV K.C e (s + 1)] (hx : evL l x = some (.p (some (b, o)))) : PV K.C l (.fieldAddr t x i) (.p (some (b, o + f))) := by
  obtain ⟨ti, fs, h1, h2, h3⟩ := hF.h
  obtain ⟨te, h4, h5⟩ := hs.h
  haveI : TiV K.C t ti := ⟨h1⟩
  haveI : TiV K.C e te := ⟨h4⟩
  exact pv_fa hx h2 h3 (by rw [h5]; rfl)
theorem p_fld {t e : TypeId} {x : Operand} {i f : Nat} {C : List V} {v : V} [hF : FieldV K.C t i f e] [hr : RowV K.C e false] (hx : evL l x = some (.agg C)) (hv : C[f]? = some v) : PV K.C l (.field t x i) v := by
  obtain ⟨ti, fs, h1, h2, h3⟩ := hF.h
  obtain ⟨te, h4, h5⟩ := hr.h
  haveI : TiV K.C t ti := ⟨h1⟩
  haveI : TiV K.C e te := ⟨h4⟩
  exact pv_fld1 hx h2 h3 h5 hv
theorem p_fldn {t e : TypeId} {x : Operand} {i f s : Nat} {C : List V} [hF : FieldV K.C t i f e] [hr : RowV K.C e true] [hs : SizeV K.C e s] (hx : evL l x = some (.agg C)) (hl : f + s ≤ C.length) (hc : (C.drop f).take s = cs) : PV K.C l (.field t x i) (.agg cs) := by
  obtain ⟨ti, fs, h1, h2, h3⟩ := hF.h
  obtain ⟨te, h4, h5⟩ := hr.h
  obtain ⟨te', h6, rfl⟩ := hs.h
  rw [h4] at h6
  obtain rfl := Option.some.inj h6
  haveI : TiV K.C t ti := ⟨h1⟩
  haveI : TiV K.C e te := ⟨h4⟩
  exact pv_fldn hx h2 h3 h5 hl hc
/-- An element of one cell, of a slice. -/
theorem p_ia {t e : TypeId} {x y : Operand} {b o m c i : Nat} {op : Bool} {k : IntKind} {n : Int} [hS : SliceV K.C t e] [hs : SizeV K.C e 1] (hx : evL l x = some (.sl (some (b, o)) m c op)) (hy : evL l y = some (.i k n)) [hn : CastN n i] (hi : i < m) : PV K.C l (.indexAddr t x y) (.p (some (b, o + i))) := by
  obtain ⟨ti, h1, h2⟩ := hS.h
  obtain ⟨te, h4, h5⟩ := hs.h
  haveI : TiV K.C t ti := ⟨h1⟩
  haveI : TiV K.C e te := ⟨h4⟩
  obtain rfl := hn.h
  have := pv_ia (K := K) (l := l) (t := t) (te := te) hx hy h2 hi
  rw [h5, Nat.mul_one] at this
  exact this
theorem p_ian {t e : TypeId} {x y : Operand} {b o m c i s : Nat} {op : Bool} {k : IntKind} {n : Int} [hS : SliceV K.C t e] [hs : SizeV K.C e s] (hx : evL l x = some (.sl (some (b, o)) m c op)) (hy : evL l y = some (.i k n)) [hn : CastN n i] (hi : i < m) : PV K.C l (.indexAddr t x y) (.p (some (b, o + i * s))) := by
  obtain ⟨ti, h1, h2⟩ := hS.h
  obtain ⟨te, h4, h5⟩ := hs.h
  haveI : TiV K.C t ti := ⟨h1⟩
  haveI : TiV K.C e te := ⟨h4⟩
  obtain rfl := hn.h
  subst h5
  exact pv_ia hx hy h2 hi
theorem p_iaa {t e : TypeId} {x y : Operand} {b o m i : Nat} {k : IntKind} {n : Int} [hS : ArrV K.C t m e] [hs : SizeV K.C e 1] (hx : evL l x = some (.p (some (b, o)))) (hy : evL l y = some (.i k n)) [hn : CastN n i] (hi : i < m) : PV K.C l (.indexAddr t x y) (.p (some (b, o + i))) := by
  obtain ⟨ti, h1, h2⟩ := hS.h
  obtain ⟨te, h4, h5⟩ := hs.h
  haveI : TiV K.C t ti := ⟨h1⟩
  haveI : TiV K.C e te := ⟨h4⟩
  obtain rfl := hn.h
  have := pv_iaa (K := K) (l := l) (t := t) (te := te) hx hy h2 hi
  rw [h5, Nat.mul_one] at this
  exact this
theorem p_iaan {t e : TypeId} {x y : Operand} {b o m i s : Nat} {k : IntKind} {n : Int} [hS : ArrV K.C t m e] [hs : SizeV K.C e s] (hx : evL l x = some (.p (some (b, o)))) (hy : evL l y = some (.i k n)) [hn : CastN n i] (hi : i < m) : PV K.C l (.indexAddr t x y) (.p (some (b, o + i * s))) := by
  obtain ⟨ti, h1, h2⟩ := hS.h
  obtain ⟨te, h4, h5⟩ := hs.h
  haveI : TiV K.C t ti := ⟨h1⟩
  haveI : TiV K.C e te := ⟨h4⟩
  obtain rfl := hn.h
  subst h5
  exact pv_iaa hx hy h2 hi
/-- An element of one cell, of an array by value. -/
theorem p_ix {t e : TypeId} {x y : Operand} {m i : Nat} {k : IntKind} {n : Int} {C : List V} {v : V} [hS : ArrV K.C t m e] [hs : SizeV K.C e 1] [hr : RowV K.C e false] (hx : evL l x = some (.agg C)) (hy : evL l y = some (.i k n)) [hn : CastN n i] (hi : i < m) (hv : C[i]? = some v) : PV K.C l (.index t x y) v := by
  obtain ⟨ti, h1, h2⟩ := hS.h
  obtain ⟨te, h4, h5⟩ := hs.h
  obtain ⟨te', h6, h7⟩ := hr.h
  rw [h4] at h6
  obtain rfl := Option.some.inj h6
  haveI : TiV K.C t ti := ⟨h1⟩
  haveI : TiV K.C e te := ⟨h4⟩
  obtain rfl := hn.h
  exact pv_ix1 hx hy h2 h7 hi (by rw [h5, Nat.mul_one]; exact hv)
theorem p_ixs {t : TypeId} {x y : Operand} {i : Nat} {k : IntKind} {n : Int} {a : List UInt8} {c : UInt8} [hS : StrV K.C t] (hx : evL l x = some (.s a)) (hy : evL l y = some (.i k n)) [hn : CastN n i] (hv : a[i]? = some c) : PV K.C l (.index t x y) (byV c) := by
  obtain ⟨ti, h1, h2⟩ := hS.h
  haveI : TiV K.C t ti := ⟨h1⟩
  obtain rfl := hn.h
  exact pv_ixs hx hy h2 hv
theorem m_len {t e : TypeId} {x : Operand} {m c : Nat} {op : Bool} [hS : SliceV K.C t e] (hx : evL l x = some (.sl A m c op)) : MVO K hp0 l L (.call { callee := .builtin .len, args := #[x], argTypes := #[t] }) (.i .i64 (m : Int)) := by
  obtain ⟨ti, h1, h2⟩ := hS.h
  haveI : TiV K.C t ti := ⟨h1⟩
  exact mv_len hx h2
theorem m_lens {t : TypeId} {x : Operand} {a : List UInt8} [hS : StrV K.C t] (hx : evL l x = some (.s a)) : MVO K hp0 l L (.call { callee := .builtin .len, args := #[x], argTypes := #[t] }) (.i .i64 (a.length : Int)) := by
  obtain ⟨ti, h1, h2⟩ := hS.h
  haveI : TiV K.C t ti := ⟨h1⟩
  exact mv_lens hx h2
theorem m_conv {s t : TypeId} {x : Operand} {k k' : IntKind} {p : Int} [hs : IntV K.C s k] [ht : IntV K.C t k'] (hx : evL l x = some (.i k p)) : MVO K hp0 l L (.convert s t x) (.i k' (k'.wrap p)) := by
  obtain ⟨ti, h1, h2⟩ := hs.h
  obtain ⟨te, h4, h5⟩ := ht.h
  haveI : TiV K.C s ti := ⟨h1⟩
  haveI : TiV K.C t te := ⟨h4⟩
  exact mv_conv hx h5
theorem m_convs {s t : TypeId} {x : Operand} {a : List UInt8} [hs : StrV K.C s] [ht : StrV K.C t] (hx : evL l x = some (.s a)) : MVO K hp0 l L (.convert s t x) (.s a) := by
  obtain ⟨ti, h1, h2⟩ := hs.h
  obtain ⟨te, h4, h5⟩ := ht.h
  haveI : TiV K.C s ti := ⟨h1⟩
  haveI : TiV K.C t te := ⟨h4⟩
  exact mv_convs hx h5
/-- A string, of bytes in old memory; of bytes in one of the own objects. -/
theorem m_b2so {s t e : TypeId} {x : Operand} {xs : List UInt8} {c : Nat} {op : Bool} [hs : SliceV K.C s e] [ht : StrV K.C t] [he : IntV K.C e .u8] (hx : evL l x = some (.sl A xs.length c op)) (hr : RO hp0.hp A (xs.map byV)) (hn : NOw hp0 A) : MVO K hp0 l L (.convert s t x) (.s xs) := by
  obtain ⟨ti, h1, h2⟩ := hs.h
  obtain ⟨te, h4, h5⟩ := ht.h
  obtain ⟨ei, h6, h7⟩ := he.h
  haveI : TiV K.C s ti := ⟨h1⟩
  haveI : TiV K.C t te := ⟨h4⟩
  haveI : TiV K.C e ei := ⟨h6⟩
  refine ⟨hsA A, mv_b2s hx h2 h5 h7 (rz_oldN hr hn) (fun hp hs h hh => ?_), fun hp hs h hh => ?_⟩
  · cases A with
    | none => simp [hsA] at hh
    | some a =>
      simp only [hsA, List.mem_singleton] at hh
      subst hh
      exact old_at (o := a.2) hr hp hs
  · cases A with
    | none => simp [hsA] at hh
    | some a =>
      simp only [hsA, List.mem_singleton] at hh
      subst hh
      exact hn a.1 a.2 rfl
theorem m_b2s {s t e : TypeId} {x : Operand} {xs : List UInt8} {b o c i : Nat} {op op' : Bool} {C : List V} {E : TypeId} {oo : Option Nat} {mk : Bool} [hs : SliceV K.C s e] [ht : StrV K.C t] [he : IntV K.C e .u8] (hx : evL l x = some (.sl (some (b, o)) xs.length c op)) [hL : AtV b L (.cells C E oo mk) i] (hc : (C.drop o).take xs.length = xs.map byV) : MV K hp0 l L (.convert s t x) [b] (.s xs) := by
  obtain ⟨ti, h1, h2⟩ := hs.h
  obtain ⟨te, h4, h5⟩ := ht.h
  obtain ⟨ei, h6, h7⟩ := he.h
  haveI : TiV K.C s ti := ⟨h1⟩
  haveI : TiV K.C t te := ⟨h4⟩
  haveI : TiV K.C e ei := ⟨h6⟩
  exact mv_b2s hx h2 h5 h7 (rz_loc hc) (fun hp hs h hh => by
    simp only [hsA, List.mem_singleton] at hh
    subst hh
    exact .inl (hs.has i _ _ hL.h).2.2)
/-- One cell of what lies from A on. -/
theorem ro_el {b o j : Nat} {v : V} (h : RO hp (some (b, o)) cs) (hv : cs[j]? = some v) : RO hp (some (b, o + j)) [v] := ⟨fun b' o' e => by
  simp only [Option.some.injEq, Prod.mk.injEq] at e
  obtain ⟨rfl, rfl⟩ := e
  exact h.at' b o rfl, fun i u hu => by
  cases i with
  | zero =>
    simp at hu
    subst hu
    exact ⟨b, o + j, rfl, rv_one h.rv hv⟩
  | succ i => simp at hu⟩
theorem now_el {b o o' : Nat} (h : NOw hp0 (some (b, o))) : NOw hp0 (some (b, o')) := fun x y e => by
  simp only [Option.some.injEq, Prod.mk.injEq] at e
  obtain ⟨rfl, rfl⟩ := e
  exact h b o rfl
/-- A load, of one cell of old memory; the j-th of what lies there. -/
theorem m_ldN {t : TypeId} {x : Operand} {b o o' j : Nat} {v : V} [hr : RowV K.C t false] (hx : evL l x = some (.p (some (b, o')))) (h : RO hp0.hp (some (b, o)) cs) (hn : NOw hp0 (some (b, o))) (hj : o' = o + j) (hv : cs[j]? = some v) : MVO K hp0 l L (.load t x) v := by
  obtain ⟨ti, h1, h2⟩ := hr.h
  haveI : TiV K.C t ti := ⟨h1⟩
  subst hj
  exact mvo_at (o := o + j) (now_el hn) (mv_ld1 hx h2 (rz_oldN (ro_el h hv) (now_el hn)) (old_at h))
theorem m_ldnN {t : TypeId} {x : Operand} {b o o' j s : Nat} {vs : List V} [hr : RowV K.C t true] [hs : SizeV K.C t (s + 1)] (hx : evL l x = some (.p (some (b, o')))) (h : RO hp0.hp (some (b, o)) cs) (hn : NOw hp0 (some (b, o))) (hj : o' = o + j) (hv : (cs.drop j).take (s + 1) = vs) (hl : vs.length = s + 1) : MVO K hp0 l L (.load t x) (.agg vs) := by
  obtain ⟨ti, h1, h2⟩ := hr.h
  obtain ⟨te', h6, h7⟩ := hs.h
  rw [h1] at h6
  obtain rfl := Option.some.inj h6
  haveI : TiV K.C t ti := ⟨h1⟩
  subst hj
  have h8 : RO hp0.hp (some (b, o + j)) vs := by rw [← hv]; exact ro_take (ro_drop h j) (s + 1)
  exact mvo_at (o := o + j) (now_el hn) (mv_ldn hx h2 (by rw [hl, h7]) (fun e => by rw [e] at hl; simp at hl) (rz_oldN h8 (now_el hn)) (old_at h))
/-- Out of one of the own objects. -/
theorem m_ldl {t : TypeId} {x : Operand} {b o i : Nat} {C : List V} {E : TypeId} {op : Option Nat} {mk : Bool} {v : V} [hr : RowV K.C t false] (hx : evL l x = some (.p (some (b, o)))) [hL : AtV b L (.cells C E op mk) i] (hv : C[o]? = some v) : MV K hp0 l L (.load t x) [b] v := by
  obtain ⟨ti, h1, h2⟩ := hr.h
  haveI : TiV K.C t ti := ⟨h1⟩
  exact mv_ldl hx h2 hv
theorem m_ldln {t : TypeId} {x : Operand} {b o i s : Nat} {C : List V} {E : TypeId} {op : Option Nat} {mk : Bool} [hr : RowV K.C t true] [hs : SizeV K.C t (s + 1)] (hx : evL l x = some (.p (some (b, o)))) [hL : AtV b L (.cells C E op mk) i] (hc : (C.drop o).take (s + 1) = cs) (hl : cs.length = s + 1) : MV K hp0 l L (.load t x) [b] (.agg cs) := by
  obtain ⟨ti, h1, h2⟩ := hr.h
  obtain ⟨te', h6, h7⟩ := hs.h
  rw [h1] at h6
  obtain rfl := Option.some.inj h6
  haveI : TiV K.C t ti := ⟨h1⟩
  exact mv_ldn hx h2 (by rw [hl, h7]) (fun e => by rw [e] at hl; simp at hl) (rz_loc hc) (fun hp hs => .inl (hs.has i b _ hL.h).2.2)
/-- What one of the own objects tells, for a call. -/
theorem ro_own {b o i : Nat} {C : List V} {E : TypeId} {op : Option Nat} {mk : Bool} (hs : SV hp0 hp L) (h : L[i]? = some (some b, .cells C E op mk)) (hc : ∀ j v, cs[j]? = some v → C[o + j]? = some v) : RO hp (some (b, o)) cs := ⟨fun b' o' e => by
  simp only [Option.some.injEq, Prod.mk.injEq] at e
  obtain ⟨rfl, rfl⟩ := e
  exact .inl (hs.has i _ _ h).2.2, rz_at h hc hp hs⟩
theorem e_st {t : TypeId} {x y : Operand} {b o i : Nat} {C C' : List V} {v : V} {E : TypeId} {op : Option Nat} {mk : Bool} {L' : HV} {k : VR → HV → Prop} [hs : SizeV K.C t 1] (hx : evL l x = some (.p (some (b, o)))) (hy : evL l y = some v) (hv : v.cells = some [v])
    [hL : AtV b L (.cells C E op mk) i] (ho : o < C.length) (hC : C.set o v = C') [hS : SetV L i (some b, .cells C' E op mk) L'] (hk : k (.v undV) L') : EV K hp0 l L (.store t x y) [b] k := by
  obtain ⟨ti, h1, h2⟩ := hs.h
  haveI : TiV K.C t ti := ⟨h1⟩
  refine ev_st (C := C) (C' := C') hx hy hv (by simp) (by rw [h2]; rfl) (by simp; omega) ?_ hk
  rw [← hC, List.set_eq_take_append_cons_drop, if_pos ho]
  simp [overV]
theorem e_stn {t : TypeId} {x y : Operand} {b o i s : Nat} {C C' vs : List V} {E : TypeId} {op : Option Nat} {mk : Bool} {L' : HV} {k : VR → HV → Prop} [hs : SizeV K.C t s] (hx : evL l x = some (.p (some (b, o)))) (hy : evL l y = some (.agg vs)) (hne : vs ≠ []) (hz : vs.length = s)
    [hL : AtV b L (.cells C E op mk) i] (ho : o + s ≤ C.length) (hC : overV C o vs = C') [hS : SetV L i (some b, .cells C' E op mk) L'] (hk : k (.v undV) L') : EV K hp0 l L (.store t x y) [b] k := by
  obtain ⟨ti, h1, h2⟩ := hs.h
  haveI : TiV K.C t ti := ⟨h1⟩
  exact ev_st (C := C) (C' := C') hx hy rfl hne (by rw [h2, hz]) (by rw [hz]; exact ho) hC hk
theorem e_alloc {t : TypeId} {z : V} {zc : List V} {k : VR → HV → Prop} [hz : ZeroV K.C t z] (hc : z.cells = some zc) (hk : ∀ b, k (.v (.p (some (b, 0)))) ((some b, cellsO zc t) :: L)) : EV K hp0 l L (.alloc t) [] k := by
  obtain ⟨ti, h1, h2⟩ := hz.h
  haveI : TiV K.C t ti := ⟨h1⟩
  exact ev_alloc h2 hc hk
/-- What can be said of an operation in a plain region, in one that draws. -/
theorem p_op {ops rest : List Oper} {o : Oper} {d : Nat} {tch : List Nat} (hg : WantV ops l o) (hdf : isDefer o.op = false) (hd : o.dst = some d) (hlt : Nat.ble (d + 1) nt = true) (hnt : Nat.ble nt trMax = true) (h : EV K hp0 l L o.op tch fun r L' => ∃ v, r = .v v ∧ WGL K nt hp0 ops rest ((d, v) :: l) df L' Q) : WGL K nt hp0 ops (o :: rest) l df L Q := wl_op hg hdf hd hlt hnt h
theorem p_do {ops rest : List Oper} {o : Oper} {tch : List Nat} (hg : WantV ops l o) (hdf : isDefer o.op = false) (hd : o.dst = none) (h : EV K hp0 l L o.op tch fun r L' => ∃ v, r = .v v ∧ WGL K nt hp0 ops rest l df L' Q) : WGL K nt hp0 ops (o :: rest) l df L Q := wl_do hg hdf hd h
theorem d_op {ops rest : List Oper} {pres : Tr Nat} {i np : Nat} {tl : List Nat} {rl : List (Nat × List Nat)} {o : Oper} {d : Nat} {tch : List Nat} (hg : WantV ops l o) (hi : isPure o.op = false) (hr : NoRd K.C l o.op) (hm : maskLe np (maskOf pres i) = true) (hd : o.dst = some d) (hlt : Nat.ble (d + 1) nt = true) (hnt : Nat.ble nt trMax = true) (hok : RdOk pres i tch rl)
    (h : EV K hp0 l L o.op tch fun r L' => ∃ v, r = .v v ∧ WGD K nt hp0 ops pres L0 df rest (i + 1) (tch ++ tl) rl (np ||| (1 <<< i)) ((d, v) :: l) L' Q) : WGD K nt hp0 ops pres L0 df (o :: rest) i tl rl np l L Q := wd_op hg hi hr hm hok hd hlt hnt h
theorem d_do {ops rest : List Oper} {pres : Tr Nat} {i np : Nat} {tl : List Nat} {rl : List (Nat × List Nat)} {o : Oper} {tch : List Nat} (hg : WantV ops l o) (hi : isPure o.op = false) (hr : NoRd K.C l o.op) (hm : maskLe np (maskOf pres i) = true) (hd : o.dst = none) (hok : RdOk pres i tch rl)
    (h : EV K hp0 l L o.op tch fun r L' => ∃ v, r = .v v ∧ WGD K nt hp0 ops pres L0 df rest (i + 1) (tch ++ tl) rl (np ||| (1 <<< i)) l L' Q) : WGD K nt hp0 ops pres L0 df (o :: rest) i tl rl np l L Q := wd_do hg hi hr hm hok hd h
theorem w_seqN {x y : Code} (hx : noLoopW x = true) (h : WG K nt hp0 x l df L (wthen (fun l df L => WG K nt hp0 y l df L Q) Q)) : WG K nt hp0 (.seq x y) l df L Q := w_seq h
theorem wd_heap {ops rest : List Oper} {pres : Tr Nat} {i np : Nat} {tl : List Nat} {rl : List (Nat × List Nat)} {L' : HV} (hL : ∀ hp, SV hp0 hp L → SV hp0 hp L') (h : WGD K nt hp0 ops pres L0 df rest i tl rl np l L' Q) : WGD K nt hp0 ops pres L0 df rest i tl rl np l L Q := by
  unfold WGD at *
  exact fun hpI d hI hk hfr hs => h hpI d hI hk hfr (hL _ hs)
theorem wd_know {ops rest : List Oper} {pres : Tr Nat} {i np : Nat} {tl : List Nat} {rl : List (Nat × List Nat)} {φ : Prop} (h : ∀ hp, SV hp0 hp L → φ) (k : φ → WGD K nt hp0 ops pres L0 df rest i tl rl np l L Q) : WGD K nt hp0 ops pres L0 df rest i tl rl np l L Q := by
  unfold WGD at *
  exact fun hpI d hI hk hfr hs => k (h _ hs) hpI d hI hk hfr hs
/-- A call that hands back one known value, and leaves what was there. -/
theorem ev_callq {c : Call} {xs vs : List V} {f : Nat} {u : V} {k : VR → HV → Prop} (ha : evLs l c.args.toList = some xs) (hc : callee c.callee l K.C xs = some (f, vs)) (hC : ∀ hp, SV hp0 hp L → Fn K f vs hp [] fun r _ => r = .v u) (hk : k (.v u) L) : EV K hp0 l L (.call c) [] k := by
  unfold EV
  intro fr hp hf hs
  have h := hC hp hs
  unfold Fn at h
  obtain ⟨r, hp', ⟨N, h1⟩, N', h2, h3, rfl⟩ := h
  refine ⟨.v u, hp', L, ⟨N, fun n hn => ?_⟩, (hs.then0 h2).tail, h3.mono hs.own0, stp_tch h3, hk⟩
  show oCall K.C _ fr hp c = _
  rw [oCall_callee hf ha hc]
  exact h1 n hn
theorem en_call {c : Call} {xs vs : List V} {f : Nat} {R : V → HV → Prop} {k : V → HV → Prop} (ha : evLs l c.args.toList = some xs) (hc : callee c.callee l K.C xs = some (f, vs)) (hC : ∀ hp, SV hp0 hp L → Fn K f vs hp [] fun r N => ∃ u, r = .v u ∧ R u N) (hk : ∀ u N, R u N → k u N) : EN K hp0 l L (.call c) k := by
  unfold EN
  intro fr hp hf hs
  have h := hC hp hs
  unfold Fn at h
  obtain ⟨r, hp', ⟨N, h1⟩, N', h2, h3, u, rfl, h4⟩ := h
  refine ⟨u, hp', N', ⟨N, fun n hn => ?_⟩, h2, h3, hk u N' h4⟩
  show oCall K.C _ fr hp c = _
  rw [oCall_callee hf ha hc]
  exact h1 n hn
/-- A call that hands back one known value. -/
theorem p_callq {ops rest : List Oper} {d : Nat} {c : Call} {ty : TypeId} {ps : String} {af : Array Edge} {gd : Option (Nat × Bool)} {xs vs : List V} {f : Nat} {u : V} (hg : WantV ops l ⟨some d, .call c, ty, ps, af, gd⟩) (hlt : Nat.ble (d + 1) nt = true) (hnt : Nat.ble nt trMax = true) (ha : evLs l c.args.toList = some xs) (hc : callee c.callee l K.C xs = some (f, vs)) (hC : ∀ hp, SV hp0 hp L → Fn K f vs hp [] fun r _ => r = .v u)
    (k : WGL K nt hp0 ops rest ((d, u) :: l) df L Q) : WGL K nt hp0 ops (⟨some d, .call c, ty, ps, af, gd⟩ :: rest) l df L Q := wl_op hg rfl rfl hlt hnt (ev_callq ha hc hC ⟨u, rfl, k⟩)
theorem d_callq {ops rest : List Oper} {pres : Tr Nat} {i np : Nat} {tl : List Nat} {rl : List (Nat × List Nat)} {d : Nat} {c : Call} {ty : TypeId} {ps : String} {af : Array Edge} {gd : Option (Nat × Bool)} {xs vs : List V} {f : Nat} {u : V} (hg : WantV ops l ⟨some d, .call c, ty, ps, af, gd⟩) (hm : maskLe np (maskOf pres i) = true) (hlt : Nat.ble (d + 1) nt = true) (hnt : Nat.ble nt trMax = true) (ha : evLs l c.args.toList = some xs) (hc : callee c.callee l K.C xs = some (f, vs)) (hC : ∀ hp, SV hp0 hp L → Fn K f vs hp [] fun r _ => r = .v u)
    (k : WGD K nt hp0 ops pres L0 df rest (i + 1) tl rl (np ||| (1 <<< i)) ((d, u) :: l) L Q) : WGD K nt hp0 ops pres L0 df (⟨some d, .call c, ty, ps, af, gd⟩ :: rest) i tl rl np l L Q := wd_op (tch := []) hg rfl (noRd_call hc) hm rdOk_nil rfl hlt hnt (ev_callq ha hc hC ⟨u, rfl, k⟩)
theorem d_callq0 {ops rest : List Oper} {pres : Tr Nat} {i np : Nat} {rl : List (Nat × List Nat)} {d : Nat} {c : Call} {ty : TypeId} {ps : String} {af : Array Edge} {gd : Option (Nat × Bool)} {xs vs : List V} {f : Nat} {u : V} (hg : WantV ops l ⟨some d, .call c, ty, ps, af, gd⟩) (hm : maskLe np (maskOf pres i) = false) (hlt : Nat.ble (d + 1) nt = true) (hnt : Nat.ble nt trMax = true) (ha : evLs l c.args.toList = some xs) (hc : callee c.callee l K.C xs = some (f, vs)) (hC : ∀ hp, SV hp0 hp L0 → Fn K f vs hp [] fun r _ => r = .v u)
    (k : WGD K nt hp0 ops pres L0 df rest (i + 1) [] rl (np ||| (1 <<< i)) ((d, u) :: l) L Q) : WGD K nt hp0 ops pres L0 df (⟨some d, .call c, ty, ps, af, gd⟩ :: rest) i [] rl np l L Q :=
  wd_op0 hg rfl (noRd_call hc) hm rfl hlt hnt (en_call (R := fun v _ => v = u) ha hc (fun hp hs => (hC hp hs).mono fun r N e => ⟨u, e, rfl⟩) fun v N e => by subst e; exact wd_heap (fun _ h => h.tail) k)
/-- A call that makes new objects N. -/
theorem p_call {ops rest : List Oper} {d : Nat} {c : Call} {ty : TypeId} {ps : String} {af : Array Edge} {gd : Option (Nat × Bool)} {xs vs : List V} {f : Nat} {R : V → HV → Prop} (hg : WantV ops l ⟨some d, .call c, ty, ps, af, gd⟩) (hlt : Nat.ble (d + 1) nt = true) (hnt : Nat.ble nt trMax = true) (ha : evLs l c.args.toList = some xs) (hc : callee c.callee l K.C xs = some (f, vs)) (hC : ∀ hp, SV hp0 hp L → Fn K f vs hp [] fun r N => ∃ u, r = .v u ∧ R u N)
    (k : ∀ u N, R u N → WGL K nt hp0 ops rest ((d, u) :: l) df (N ++ L) Q) : WGL K nt hp0 ops (⟨some d, .call c, ty, ps, af, gd⟩ :: rest) l df L Q := wl_op hg rfl rfl hlt hnt (ev_call ha hc hC (by rintro _ N ⟨u, rfl, h⟩; exact ⟨u, rfl, k u N h⟩))
theorem d_call {ops rest : List Oper} {pres : Tr Nat} {i np : Nat} {tl : List Nat} {rl : List (Nat × List Nat)} {d : Nat} {c : Call} {ty : TypeId} {ps : String} {af : Array Edge} {gd : Option (Nat × Bool)} {xs vs : List V} {f : Nat} {R : V → HV → Prop} (hg : WantV ops l ⟨some d, .call c, ty, ps, af, gd⟩) (hm : maskLe np (maskOf pres i) = true) (hlt : Nat.ble (d + 1) nt = true) (hnt : Nat.ble nt trMax = true) (ha : evLs l c.args.toList = some xs) (hc : callee c.callee l K.C xs = some (f, vs)) (hC : ∀ hp, SV hp0 hp L → Fn K f vs hp [] fun r N => ∃ u, r = .v u ∧ R u N)
    (k : ∀ u N, R u N → WGD K nt hp0 ops pres L0 df rest (i + 1) tl rl (np ||| (1 <<< i)) ((d, u) :: l) (N ++ L) Q) : WGD K nt hp0 ops pres L0 df (⟨some d, .call c, ty, ps, af, gd⟩ :: rest) i tl rl np l L Q := wd_op (tch := []) hg rfl (noRd_call hc) hm rdOk_nil rfl hlt hnt (ev_call ha hc hC (by rintro _ N ⟨u, rfl, h⟩; exact ⟨u, rfl, k u N h⟩))
theorem d_call0 {ops rest : List Oper} {pres : Tr Nat} {i np : Nat} {rl : List (Nat × List Nat)} {d : Nat} {c : Call} {ty : TypeId} {ps : String} {af : Array Edge} {gd : Option (Nat × Bool)} {xs vs : List V} {f : Nat} {R : V → HV → Prop} (hg : WantV ops l ⟨some d, .call c, ty, ps, af, gd⟩) (hm : maskLe np (maskOf pres i) = false) (hlt : Nat.ble (d + 1) nt = true) (hnt : Nat.ble nt trMax = true) (ha : evLs l c.args.toList = some xs) (hc : callee c.callee l K.C xs = some (f, vs)) (hC : ∀ hp, SV hp0 hp L0 → Fn K f vs hp [] fun r N => ∃ u, r = .v u ∧ R u N)
    (k : ∀ u N, R u N → WGD K nt hp0 ops pres L0 df rest (i + 1) [] rl (np ||| (1 <<< i)) ((d, u) :: l) (N ++ L) Q) : WGD K nt hp0 ops pres L0 df (⟨some d, .call c, ty, ps, af, gd⟩ :: rest) i [] rl np l L Q := wd_op0 hg rfl (noRd_call hc) hm rfl hlt hnt (en_call ha hc hC k)
/-- A call that may turn what Lt tells of. -/
theorem p_callT {ops rest : List Oper} {d : Nat} {c : Call} {ty : TypeId} {ps : String} {af : Array Edge} {gd : Option (Nat × Bool)} {xs vs : List V} {f : Nat} {R : V → HV → Prop} (Lt Lr : HV) (hg : WantV ops l ⟨some d, .call c, ty, ps, af, gd⟩) (hlt : Nat.ble (d + 1) nt = true) (hnt : Nat.ble nt trMax = true) (ha : evLs l c.args.toList = some xs) (hc : callee c.callee l K.C xs = some (f, vs)) (hL : ∀ hp, SV hp0 hp L → SV hp0 hp (Lt ++ Lr)) (hC : ∀ hp, SV hp0 hp L → SV ⟨hp, hnds Lt⟩ hp Lt → Fn K f vs hp (hnds Lt) fun r N => ∃ u, r = .v u ∧ R u N)
    (k : ∀ u N, R u N → WGL K nt hp0 ops rest ((d, u) :: l) df (N ++ Lr) Q) : WGL K nt hp0 ops (⟨some d, .call c, ty, ps, af, gd⟩ :: rest) l df L Q := wl_op hg rfl rfl hlt hnt (ev_callT ha hc hL hC (by rintro _ N ⟨u, rfl, h⟩; exact ⟨u, rfl, k u N h⟩))
theorem d_callT {ops rest : List Oper} {pres : Tr Nat} {i np : Nat} {tl : List Nat} {rl : List (Nat × List Nat)} {d : Nat} {c : Call} {ty : TypeId} {ps : String} {af : Array Edge} {gd : Option (Nat × Bool)} {xs vs : List V} {f : Nat} {R : V → HV → Prop} (Lt Lr : HV) (hg : WantV ops l ⟨some d, .call c, ty, ps, af, gd⟩) (hm : maskLe np (maskOf pres i) = true) (hlt : Nat.ble (d + 1) nt = true) (hnt : Nat.ble nt trMax = true) (ha : evLs l c.args.toList = some xs) (hc : callee c.callee l K.C xs = some (f, vs)) (hok : RdOk pres i (hnds Lt) rl) (hL : ∀ hp, SV hp0 hp L → SV hp0 hp (Lt ++ Lr)) (hC : ∀ hp, SV hp0 hp L → SV ⟨hp, hnds Lt⟩ hp Lt → Fn K f vs hp (hnds Lt) fun r N => ∃ u, r = .v u ∧ R u N)
    (k : ∀ u N, R u N → WGD K nt hp0 ops pres L0 df rest (i + 1) (hnds Lt ++ tl) rl (np ||| (1 <<< i)) ((d, u) :: l) (N ++ Lr) Q) : WGD K nt hp0 ops pres L0 df (⟨some d, .call c, ty, ps, af, gd⟩ :: rest) i tl rl np l L Q := wd_op hg rfl (noRd_call hc) hm hok rfl hlt hnt (ev_callT ha hc hL hC (by rintro _ N ⟨u, rfl, h⟩; exact ⟨u, rfl, k u N h⟩))
/-! Numbers compared. -/
theorem vi_lssT {k : IntKind} {x y : Int} (h : x < y) : vint .lss k x y = some (.b true) := by simp [vint, intLt_iff, h]
theorem vi_lssF {k : IntKind} {x y : Int} (h : ¬ x < y) : vint .lss k x y = some (.b false) := by simp [vint, intLt_iff]; omega
theorem vi_leqT {k : IntKind} {x y : Int} (h : x ≤ y) : vint .leq k x y = some (.b true) := by simp [vint, intLe_iff, h]
theorem vi_leqF {k : IntKind} {x y : Int} (h : ¬ x ≤ y) : vint .leq k x y = some (.b false) := by simp [vint, intLe_iff]; omega
theorem vi_gtrT {k : IntKind} {x y : Int} (h : y < x) : vint .gtr k x y = some (.b true) := by simp [vint, intLt_iff, h]
theorem vi_gtrF {k : IntKind} {x y : Int} (h : ¬ y < x) : vint .gtr k x y = some (.b false) := by simp [vint, intLt_iff]; omega
theorem vi_geqT {k : IntKind} {x y : Int} (h : y ≤ x) : vint .geq k x y = some (.b true) := by simp [vint, intLe_iff, h]
theorem vi_geqF {k : IntKind} {x y : Int} (h : ¬ y ≤ x) : vint .geq k x y = some (.b false) := by simp [vint, intLe_iff]; omega
theorem vi_eqlT {k : IntKind} {x y : Int} (h : x = y) : vint .eql k x y = some (.b true) := by simp [vint, intEq_iff, h]
theorem vi_eqlF {k : IntKind} {x y : Int} (h : ¬ x = y) : vint .eql k x y = some (.b false) := by simp [vint, intEq_iff, h]
theorem vi_neqT {k : IntKind} {x y : Int} (h : ¬ x = y) : vint .neq k x y = some (.b true) := by simp [vint, intEq_iff, h]
theorem vi_neqF {k : IntKind} {x y : Int} (h : x = y) : vint .neq k x y = some (.b false) := by simp [vint, intEq_iff, h]
theorem mv_addN {t t' : TypeId} {x y : Operand} {p q : Int} {a b : Nat} (hx : evL l x = some (.i .i64 p)) (hy : evL l y = some (.i .i64 q)) [ha : CastN p a] [hb : CastN q b] (h : a + b < 9223372036854775808) : MVO K hp0 l L (.binOp .add t x y t') (.i .i64 ((a + b : Nat) : Int)) := by
  obtain rfl := ha.h
  obtain rfl := hb.h
  exact mv_int hx hy (by show some (V.i .i64 (IntKind.i64.wrap ((a : Int) + b))) = _; rw [IntWalk.i64_in _ (by omega)]; rfl)
theorem mv_subN {t t' : TypeId} {x y : Operand} {p q : Int} {a b : Nat} (hx : evL l x = some (.i .i64 p)) (hy : evL l y = some (.i .i64 q)) [ha : CastN p a] [hb : CastN q b] (h : b ≤ a ∧ a < 9223372036854775808) : MVO K hp0 l L (.binOp .sub t x y t') (.i .i64 ((a - b : Nat) : Int)) := by
  obtain rfl := ha.h
  obtain rfl := hb.h
  exact mv_int hx hy (by show some (V.i .i64 (IntKind.i64.wrap ((a : Int) - b))) = _; rw [IntWalk.i64_in _ (by omega)]; congr 2; omega)
theorem mv_mulN {t t' : TypeId} {x y : Operand} {p q : Int} {a b : Nat} (hx : evL l x = some (.i .i64 p)) (hy : evL l y = some (.i .i64 q)) [ha : CastN p a] [hb : CastN q b] (h : a * b < 9223372036854775808) : MVO K hp0 l L (.binOp .mul t x y t') (.i .i64 ((a * b : Nat) : Int)) := by
  obtain rfl := ha.h
  obtain rfl := hb.h
  exact mv_int hx hy (by show some (V.i .i64 (IntKind.i64.wrap ((a : Int) * b))) = _; rw [IntWalk.i64_in _ (by rw [← Int.natCast_mul]; omega)]; rfl)
end
end Go.Proofs.YtaahfdjobpbpjaaGreatDoor
