/- Wd: the rules put together for going on without care; what makes new objects; appends; slices cut. By this project. -/
import Derived.Test.YtaahfdjobpbpjaaGreatDoorWc
import Derived.IntWalk
set_option linter.unusedVariables false
set_option linter.unusedSectionVars false
set_option linter.unusedSimpArgs false
namespace Go.Proofs.YtaahfdjobpbpjaaGreatDoor
open Go.RowKit Go.Extern.Stop

section
variable {K : Kx} {nt : Nat} {hp0 : Bs} {hp : Hp} {l : VL} {df : DL} {L L0 : HV} {Q : WQ} {ops rest : List Oper} {A B : Option (Nat × Nat)} {cs : List V} {o : Oper} {v : V} {d : Nat} {pres : Tr Nat} {i np : Nat} {tl : List Nat} {rl : List (Nat × List Nat)} {R : List Nat}
/-! Plain regions: without a guard (n), with one (g), idle (i, u). -/
theorem wn (hg : o.guard = none) (hi : isPure o.op = true) (hd : o.dst = some d) (hlt : Nat.ble (d + 1) nt = true) (hnt : Nat.ble nt trMax = true) (h : PV K.C l o.op v) (k : WGL K nt hp0 ops rest ((d, v) :: l) df L Q) : WGL K nt hp0 ops (o :: rest) l df L Q := wl_pure (vwant_n hg) hi hd hlt hnt h k
theorem wg {j e : Nat} {t : Bool} (hg : o.guard = some (j, t)) (hj : (getL ops j).bind (·.dst) = some e) (hv : l.lookup e = some (.b t)) (hi : isPure o.op = true) (hd : o.dst = some d) (hlt : Nat.ble (d + 1) nt = true) (hnt : Nat.ble nt trMax = true) (h : PV K.C l o.op v) (k : WGL K nt hp0 ops rest ((d, v) :: l) df L Q) : WGL K nt hp0 ops (o :: rest) l df L Q := wl_pure (vwant_g hg hj hv) hi hd hlt hnt h k
theorem wi {j e : Nat} {t : Bool} (hg : o.guard = some (j, t)) (hj : (getL ops j).bind (·.dst) = some e) (hv : l.lookup e = some (.b !t)) (hd : o.dst = some d) (hlt : Nat.ble (d + 1) nt = true) (hnt : Nat.ble nt trMax = true) (k : WGL K nt hp0 ops rest ((d, undV) :: l) df L Q) : WGL K nt hp0 ops (o :: rest) l df L Q := wl_idle (vidle_g hg hj hv) hd hlt hnt k
theorem wu {j e : Nat} {t : Bool} (hg : o.guard = some (j, t)) (hj : (getL ops j).bind (·.dst) = some e) (hv : l.lookup e = some undV) (hd : o.dst = some d) (hlt : Nat.ble (d + 1) nt = true) (hnt : Nat.ble nt trMax = true) (k : WGL K nt hp0 ops rest ((d, undV) :: l) df L Q) : WGL K nt hp0 ops (o :: rest) l df L Q := wl_idle (vidle_u hg hj hv) hd hlt hnt k
theorem wi0 {j e : Nat} {t : Bool} (hg : o.guard = some (j, t)) (hj : (getL ops j).bind (·.dst) = some e) (hv : l.lookup e = some (.b !t)) (hd : o.dst = none) (k : WGL K nt hp0 ops rest l df L Q) : WGL K nt hp0 ops (o :: rest) l df L Q := wl_idle0 (vidle_g hg hj hv) hd k
/-- What looks at memory: at nothing that may be turned (m), at some (w). -/
theorem wm (hg : o.guard = none) (hdf : isDefer o.op = false) (hd : o.dst = some d) (hlt : Nat.ble (d + 1) nt = true) (hnt : Nat.ble nt trMax = true) (h : MVO K hp0 l L o.op v) (k : WGL K nt hp0 ops rest ((d, v) :: l) df L Q) : WGL K nt hp0 ops (o :: rest) l df L Q := wl_op (vwant_n hg) hdf hd hlt hnt (ev_mvo h ⟨v, rfl, k⟩)
theorem ww (hg : o.guard = none) (hdf : isDefer o.op = false) (hd : o.dst = some d) (hlt : Nat.ble (d + 1) nt = true) (hnt : Nat.ble nt trMax = true) (h : MV K hp0 l L o.op R v) (k : WGL K nt hp0 ops rest ((d, v) :: l) df L Q) : WGL K nt hp0 ops (o :: rest) l df L Q := wl_op (vwant_n hg) hdf hd hlt hnt (ev_mv h ⟨v, rfl, k⟩)
theorem wmg {j e : Nat} {t : Bool} (hg : o.guard = some (j, t)) (hj : (getL ops j).bind (·.dst) = some e) (hv : l.lookup e = some (.b t)) (hdf : isDefer o.op = false) (hd : o.dst = some d) (hlt : Nat.ble (d + 1) nt = true) (hnt : Nat.ble nt trMax = true) (h : MVO K hp0 l L o.op v) (k : WGL K nt hp0 ops rest ((d, v) :: l) df L Q) : WGL K nt hp0 ops (o :: rest) l df L Q := wl_op (vwant_g hg hj hv) hdf hd hlt hnt (ev_mvo h ⟨v, rfl, k⟩)
theorem wwg {j e : Nat} {t : Bool} (hg : o.guard = some (j, t)) (hj : (getL ops j).bind (·.dst) = some e) (hv : l.lookup e = some (.b t)) (hdf : isDefer o.op = false) (hd : o.dst = some d) (hlt : Nat.ble (d + 1) nt = true) (hnt : Nat.ble nt trMax = true) (h : MV K hp0 l L o.op R v) (k : WGL K nt hp0 ops rest ((d, v) :: l) df L Q) : WGL K nt hp0 ops (o :: rest) l df L Q := wl_op (vwant_g hg hj hv) hdf hd hlt hnt (ev_mv h ⟨v, rfl, k⟩)
/-! Regions that draw. -/
theorem dn (hg : o.guard = none) (hi : isPure o.op = true) (hd : o.dst = some d) (hlt : Nat.ble (d + 1) nt = true) (hnt : Nat.ble nt trMax = true) (h : PV K.C l o.op v) (k : WGD K nt hp0 ops pres L0 df rest (i + 1) tl rl np ((d, v) :: l) L Q) : WGD K nt hp0 ops pres L0 df (o :: rest) i tl rl np l L Q := wd_pure (vwant_n hg) hi hd hlt hnt h k
theorem dg {j e : Nat} {t : Bool} (hg : o.guard = some (j, t)) (hj : (getL ops j).bind (·.dst) = some e) (hv : l.lookup e = some (.b t)) (hi : isPure o.op = true) (hd : o.dst = some d) (hlt : Nat.ble (d + 1) nt = true) (hnt : Nat.ble nt trMax = true) (h : PV K.C l o.op v) (k : WGD K nt hp0 ops pres L0 df rest (i + 1) tl rl np ((d, v) :: l) L Q) : WGD K nt hp0 ops pres L0 df (o :: rest) i tl rl np l L Q := wd_pure (vwant_g hg hj hv) hi hd hlt hnt h k
theorem di {j e : Nat} {t : Bool} (hg : o.guard = some (j, t)) (hj : (getL ops j).bind (·.dst) = some e) (hv : l.lookup e = some (.b !t)) (hd : o.dst = some d) (hlt : Nat.ble (d + 1) nt = true) (hnt : Nat.ble nt trMax = true) (k : WGD K nt hp0 ops pres L0 df rest (i + 1) tl rl np ((d, undV) :: l) L Q) : WGD K nt hp0 ops pres L0 df (o :: rest) i tl rl np l L Q := wd_idle (vidle_g hg hj hv) hd hlt hnt k
theorem du {j e : Nat} {t : Bool} (hg : o.guard = some (j, t)) (hj : (getL ops j).bind (·.dst) = some e) (hv : l.lookup e = some undV) (hd : o.dst = some d) (hlt : Nat.ble (d + 1) nt = true) (hnt : Nat.ble nt trMax = true) (k : WGD K nt hp0 ops pres L0 df rest (i + 1) tl rl np ((d, undV) :: l) L Q) : WGD K nt hp0 ops pres L0 df (o :: rest) i tl rl np l L Q := wd_idle (vidle_u hg hj hv) hd hlt hnt k
/-- What looks at memory at no object that may be turned (m); at none at all (s); at some, behind all that have turned (w). -/
theorem dm (hg : o.guard = none) (hi : isPure o.op = false) (hr : isRd o.op = true) (hd : o.dst = some d) (hlt : Nat.ble (d + 1) nt = true) (hnt : Nat.ble nt trMax = true) (h : MVO K hp0 l L o.op v) (k : WGD K nt hp0 ops pres L0 df rest (i + 1) tl rl np ((d, v) :: l) L Q) : WGD K nt hp0 ops pres L0 df (o :: rest) i tl rl np l L Q := by
  obtain ⟨R, h1, h2⟩ := h
  exact wd_rd (vwant_n hg) hi hr hd hlt hnt h1 (.inr fun _ hp _ hs h hh => .inl (h2 hp hs h hh)) (.inl ⟨h2, rfl⟩) k
theorem ds (hg : o.guard = none) (hi : isPure o.op = false) (hr : isRd o.op = false) (hd : o.dst = some d) (hlt : Nat.ble (d + 1) nt = true) (hnt : Nat.ble nt trMax = true) (h : MV K hp0 l L o.op [] v) (k : WGD K nt hp0 ops pres L0 df rest (i + 1) tl rl (np ||| (1 <<< i)) ((d, v) :: l) L Q) : WGD K nt hp0 ops pres L0 df (o :: rest) i tl rl np l L Q := wd_mv (vwant_n hg) hi hr hd hlt hnt h k
theorem dw (hg : o.guard = none) (hi : isPure o.op = false) (hr : isRd o.op = true) (hm : maskLe np (maskOf pres i) = true) (hd : o.dst = some d) (hlt : Nat.ble (d + 1) nt = true) (hnt : Nat.ble nt trMax = true) (h : MV K hp0 l L o.op R v) (k : WGD K nt hp0 ops pres L0 df rest (i + 1) tl ((i, R) :: rl) np ((d, v) :: l) L Q) : WGD K nt hp0 ops pres L0 df (o :: rest) i tl rl np l L Q := wd_rd (vwant_n hg) hi hr hd hlt hnt h (.inl hm) (.inr rfl) k
/-- In no order with some that have turned; these have turned others. -/
theorem dx (hg : o.guard = none) (hi : isPure o.op = false) (hr : isRd o.op = true) (hd : o.dst = some d) (hlt : Nat.ble (d + 1) nt = true) (hnt : Nat.ble nt trMax = true) (h : MV K hp0 l L o.op R v) (hu : ∀ hpI hp, SV hp0 hpI L0 → SV hp0 hp L → ∀ h ∈ R, h < hpI.nx ∧ h ∉ tl) (k : WGD K nt hp0 ops pres L0 df rest (i + 1) tl ((i, R) :: rl) np ((d, v) :: l) L Q) : WGD K nt hp0 ops pres L0 df (o :: rest) i tl rl np l L Q := wd_rd (vwant_n hg) hi hr hd hlt hnt h (.inr fun hpI hp hI hs h hh => .inr (hu hpI hp hI hs h hh)) (.inr rfl) k
theorem dmg {j e : Nat} {t : Bool} (hg : o.guard = some (j, t)) (hj : (getL ops j).bind (·.dst) = some e) (hv : l.lookup e = some (.b t)) (hi : isPure o.op = false) (hr : isRd o.op = true) (hd : o.dst = some d) (hlt : Nat.ble (d + 1) nt = true) (hnt : Nat.ble nt trMax = true) (h : MVO K hp0 l L o.op v) (k : WGD K nt hp0 ops pres L0 df rest (i + 1) tl rl np ((d, v) :: l) L Q) : WGD K nt hp0 ops pres L0 df (o :: rest) i tl rl np l L Q := by
  obtain ⟨R, h1, h2⟩ := h
  exact wd_rd (vwant_g hg hj hv) hi hr hd hlt hnt h1 (.inr fun _ hp _ hs h hh => .inl (h2 hp hs h hh)) (.inl ⟨h2, rfl⟩) k
theorem dsg {j e : Nat} {t : Bool} (hg : o.guard = some (j, t)) (hj : (getL ops j).bind (·.dst) = some e) (hv : l.lookup e = some (.b t)) (hi : isPure o.op = false) (hr : isRd o.op = false) (hd : o.dst = some d) (hlt : Nat.ble (d + 1) nt = true) (hnt : Nat.ble nt trMax = true) (h : MV K hp0 l L o.op [] v) (k : WGD K nt hp0 ops pres L0 df rest (i + 1) tl rl (np ||| (1 <<< i)) ((d, v) :: l) L Q) : WGD K nt hp0 ops pres L0 df (o :: rest) i tl rl np l L Q := wd_mv (vwant_g hg hj hv) hi hr hd hlt hnt h k
theorem dwg {j e : Nat} {t : Bool} (hg : o.guard = some (j, t)) (hj : (getL ops j).bind (·.dst) = some e) (hv : l.lookup e = some (.b t)) (hi : isPure o.op = false) (hr : isRd o.op = true) (hm : maskLe np (maskOf pres i) = true) (hd : o.dst = some d) (hlt : Nat.ble (d + 1) nt = true) (hnt : Nat.ble nt trMax = true) (h : MV K hp0 l L o.op R v) (k : WGD K nt hp0 ops pres L0 df rest (i + 1) tl ((i, R) :: rl) np ((d, v) :: l) L Q) : WGD K nt hp0 ops pres L0 df (o :: rest) i tl rl np l L Q := wd_rd (vwant_g hg hj hv) hi hr hd hlt hnt h (.inl hm) (.inr rfl) k
/-- In no order with some that have turned; these have turned others. -/
theorem dxg {j e : Nat} {t : Bool} (hg : o.guard = some (j, t)) (hj : (getL ops j).bind (·.dst) = some e) (hv : l.lookup e = some (.b t)) (hi : isPure o.op = false) (hr : isRd o.op = true) (hd : o.dst = some d) (hlt : Nat.ble (d + 1) nt = true) (hnt : Nat.ble nt trMax = true) (h : MV K hp0 l L o.op R v) (hu : ∀ hpI hp, SV hp0 hpI L0 → SV hp0 hp L → ∀ h ∈ R, h < hpI.nx ∧ h ∉ tl) (k : WGD K nt hp0 ops pres L0 df rest (i + 1) tl ((i, R) :: rl) np ((d, v) :: l) L Q) : WGD K nt hp0 ops pres L0 df (o :: rest) i tl rl np l L Q := wd_rd (vwant_g hg hj hv) hi hr hd hlt hnt h (.inr fun hpI hp hI hs h hh => .inr (hu hpI hp hI hs h hh)) (.inr rfl) k
/-- A handle that is none of those. -/
class NotIn (b : Nat) (tl : List Nat) : Prop where h : b ∉ tl
instance {b : Nat} : NotIn b [] := ⟨by simp⟩
instance {b : Nat} {tl : List Nat} [k : NotIn b tl] : NotIn b ([] ++ tl) := ⟨k.h⟩
/-- At one of the own objects that was there when the region began, and that nothing has turned. -/
theorem dy {b m : Nat} {q : VO} (hg : o.guard = none) (hi : isPure o.op = false) (hr : isRd o.op = true) (hd : o.dst = some d) (hlt : Nat.ble (d + 1) nt = true) (hnt : Nat.ble nt trMax = true) (h : MV K hp0 l L o.op [b] v) [hb : AtV b L0 q m] [hn : NotIn b tl] (k : WGD K nt hp0 ops pres L0 df rest (i + 1) tl ((i, [b]) :: rl) np ((d, v) :: l) L Q) : WGD K nt hp0 ops pres L0 df (o :: rest) i tl rl np l L Q :=
  dx hg hi hr hd hlt hnt h (fun hpI hp hI hs x hx => by
    simp only [List.mem_singleton] at hx
    subst hx
    exact ⟨(hI.has _ _ _ hb.h).2.2, hn.h⟩) k
/-- At one of the own objects that was there when the region began, and that nothing has turned. -/
theorem dyg {b m : Nat} {q : VO} {j e : Nat} {t : Bool} (hg : o.guard = some (j, t)) (hj : (getL ops j).bind (·.dst) = some e) (hv : l.lookup e = some (.b t)) (hi : isPure o.op = false) (hr : isRd o.op = true) (hd : o.dst = some d) (hlt : Nat.ble (d + 1) nt = true) (hnt : Nat.ble nt trMax = true) (h : MV K hp0 l L o.op [b] v) [hb : AtV b L0 q m] [hn : NotIn b tl] (k : WGD K nt hp0 ops pres L0 df rest (i + 1) tl ((i, [b]) :: rl) np ((d, v) :: l) L Q) : WGD K nt hp0 ops pres L0 df (o :: rest) i tl rl np l L Q :=
  dxg hg hj hv hi hr hd hlt hnt h (fun hpI hp hI hs x hx => by
    simp only [List.mem_singleton] at hx
    subst hx
    exact ⟨(hI.has _ _ _ hb.h).2.2, hn.h⟩) k
/-- A load out of one of the own objects, of one cell. -/
theorem mv_ldl {t : TypeId} {x : Operand} {ti : TI} {b o i : Nat} {C : List V} {E : TypeId} {op : Option Nat} {mk : Bool} {v : V} (hx : evL l x = some (.p (some (b, o)))) [ht : TiV K.C t ti] (hr : ti.d.row = false) [hL : AtV b L (.cells C E op mk) i] (hv : C[o]? = some v) : MV K hp0 l L (.load t x) [b] v :=
  mv_ld1 hx hr (rz_at hL.h fun j u hu => by
    cases j with
    | zero => simp at hu; subst hu; exact hv
    | succ j => simp at hu) (fun hp hs => .inl (hs.has i b _ hL.h).2.2)
/-- A load out of one of the own objects, of a row. -/
theorem mv_ldln {t : TypeId} {x : Operand} {ti : TI} {b o i : Nat} {C : List V} {E : TypeId} {op : Option Nat} {mk : Bool} (hx : evL l x = some (.p (some (b, o)))) [ht : TiV K.C t ti] (hr : ti.d.row = true) [hL : AtV b L (.cells C E op mk) i] (hc : (C.drop o).take ti.size = cs) (hl : cs.length = ti.size) (hn : Nat.beq ti.size 0 = false) : MV K hp0 l L (.load t x) [b] (.agg cs) := by
  refine mv_ldn hx hr hl ?_ (rz_loc hc) (fun hp hs => .inl (hs.has i b _ hL.h).2.2)
  intro e
  rw [e] at hl
  rw [← hl] at hn
  simp at hn

/-! ### New objects -/
theorem ev_alloc {t : TypeId} {ti : TI} {z : V} {zc : List V} {k : VR → HV → Prop} [ht : TiV K.C t ti] (hz : ti.z = some z) (hc : z.cells = some zc) (hk : ∀ b, k (.v (.p (some (b, 0)))) ((some b, cellsO zc t) :: L)) : EV K hp0 l L (.alloc t) [] k :=
  ev_new (o := cellsO zc t) (f := fun b => .p (some (b, 0))) (fun call fr hp hf hs => by
    show oAlloc K.C hp t = _
    simp only [oAlloc, ht.h, Option.bind_some, hz, hc, ret2]
    cases hp.new (cellsO zc t) <;> rfl) hk
theorem ev_box {t : TypeId} {x : Operand} {v : V} {vc : List V} {k : VR → HV → Prop} (hx : evL l x = some v) (hc : v.cells = some vc) (hk : ∀ b, k (.v (.p (some (b, 0)))) ((some b, cellsO vc t) :: L)) : EV K hp0 l L (.box t x) [] k :=
  ev_new (o := cellsO vc t) (f := fun b => .p (some (b, 0))) (fun call fr hp hf hs => by
    show oBox fr hp t x = _
    simp only [oBox, hf.ev hx, Option.bind_some, hc, ret2]
    cases hp.new (cellsO vc t) <;> rfl) hk
theorem ev_mkmap {t : TypeId} {k : VR → HV → Prop} (hk : ∀ b, k (.v (.m (some b))) ((some b, .map [] 0) :: L)) : EV K hp0 l L (.makeMap t none) [] k :=
  ev_new (o := .map [] 0) (f := fun b => .m (some b)) (fun call fr hp hf hs => by
    show oMkMap K.C fr hp t none = _
    simp only [oMkMap, Option.bind_some, ret2]
    cases hp.new (.map [] 0) <;> rfl) hk
theorem repL_eq (v : V) : ∀ n, repL [v] n = List.replicate n v
  | 0 => rfl
  | n + 1 => by rw [repL_succ, repL_eq v n]; rfl
/-- A slice made, its elements of one cell. -/
theorem ev_mks {t e : TypeId} {x y : Operand} {ti te : TI} {m c : Nat} {k k' : IntKind} {z : V} {kk : VR → HV → Prop} (hx : evL l x = some (.i k (m : Int))) (hy : evL l y = some (.i k' (c : Int))) [ht : TiV K.C t ti] (hd : ti.d = .sl e) [he : TiV K.C e te] (hz : te.z = some z) (hc : z.cells = some [z]) (h1 : te.size = 1) (hmc : m ≤ c) (hc2 : c ≤ 16777216) (hb : Nat.ble te.bytes 100000 = true)
    (hk : ∀ b, kk (.v (.sl (some (b, 0)) m c false)) ((some b, cellsO (List.replicate c z) e) :: L)) : EV K hp0 l L (.makeSlice t x y) [] kk :=
  ev_new (o := cellsO (List.replicate c z) e) (f := fun b => .sl (some (b, 0)) m c false) (fun call fr hp hf hs => by
    show oMkSl K.C fr hp t x y = _
    have e1 : (natV (.i k (m : Int))) = some m := rfl
    have e2 : (natV (.i k' (c : Int))) = some c := rfl
    simp only [oMkSl, hf.ev hx, hf.ev hy, Option.bind_some, e1, e2, vmakeS, ht.h, hd, he.h, hz, hc, h1, Nat.mul_one, ble_t hmc, ble_t hc2, hb, Bool.and_self, repL_eq, ret2]
    cases hp.new (cellsO (List.replicate c z) e) <;> rfl) hk
/-- A slice built, of elements of one cell. -/
inductive SeqV (l : VL) : Nat → List (Nat × Operand) → List V → Prop
  | nil {i : Nat} : SeqV l i [] []
  | cons {i : Nat} {x : Operand} {v : V} {r : List (Nat × Operand)} {vs : List V} (hx : evL l x = some v) (h1 : v.cells = some [v]) (h : SeqV l (i + 1) r vs) : SeqV l i ((i, x) :: r) (v :: vs)
theorem SeqV.len {i : Nat} {xs : List (Nat × Operand)} {vs : List V} (h : SeqV l i xs vs) : xs.length = vs.length := by
  induction h with
  | nil => rfl
  | cons _ _ _ ih => simp [ih]
theorem SeqV.fill {fr : Tr V} (hf : FrV fr l) {i : Nat} {xs : List (Nat × Operand)} {vs : List V} (h : SeqV l i xs vs) : ∀ C : List V, i + vs.length ≤ C.length → fillV fr (fun i => some (i * 1, 1)) C xs = some (C.take i ++ vs ++ C.drop (i + vs.length)) := by
  induction h with
  | nil => intro C _; simp [fillV]
  | @cons i x v r vs hx h1 h ih =>
    intro C hC
    simp only [List.length_cons] at hC
    have e1 : Nat.beq (lenF [v]) 1 = true := rfl
    have e2 : geL C (i * 1 + 1) = true := geL_iff.2 (by omega)
    simp only [fillV, hf.ev hx, h1, Option.bind_some, e1, e2, Bool.and_self]
    have e3 : putAt (i * 1) C [v] = C.take i ++ [v] ++ C.drop (i + 1) := by rw [putAt_eq _ _ _ (by simp; omega), Nat.mul_one]; rfl
    have e0 : (C.take i).length = i := by simp; omega
    rw [e3, ih _ (by simp; omega)]
    rw [List.take_append_of_le_length (by simp; omega), List.take_of_length_le (by simp; omega), List.drop_append, List.drop_of_length_le (by simp; omega), List.drop_drop]
    simp only [List.length_append, List.length_cons, List.length_nil, e0]
    rw [show i + 1 + (i + 1 + vs.length - (i + 1)) = i + (vs.length + 1) by omega]
    simp
theorem ev_bs {t e : TypeId} {ti te : TI} {n : Nat} {z : V} {xs : List (Nat × Operand)} {C : List V} {k : VR → HV → Prop} [ht : TiV K.C t ti] (hd : ti.d = .sl e) [he : TiV K.C e te] (hz : te.z = some z) (hc : z.cells = some [z]) (h1 : te.size = 1) (hn : Nat.ble n 16777216 = true) (hq : SeqV l 0 xs C) (hC : xs.length = n)
    (hk : ∀ b, k (.v (.sl (some (b, 0)) n n false)) ((some b, cellsO C e) :: L)) : EV K hp0 l L (.buildSlice t n xs.toArray) [] k :=
  ev_new (o := cellsO C e) (f := fun b => .sl (some (b, 0)) n n false) (fun call fr hp hf hs => by
    show ret2 (vbuildS K.C hp fr t n xs) = _
    have hl := hq.len
    have e1 := hq.fill hf (List.replicate n z) (by simp; omega)
    rw [List.take_zero, List.nil_append, List.drop_of_length_le (by simp; omega), List.append_nil] at e1
    have e2 : Nat.ble (n * 1) 16777216 = true := by rw [Nat.mul_one]; exact hn
    simp only [vbuildS, ht.h, Option.bind_some, hd, he.h, hz, hc, h1, e2, repL_eq, e1, ret2]
    cases hp.new (cellsO C e) <;> rfl) hk
/-- A slice built, of one element of several cells. -/
theorem ev_bs1 {t e : TypeId} {ti te : TI} {z v : V} {x : Operand} {zc vs : List V} {k : VR → HV → Prop} [ht : TiV K.C t ti] (hd : ti.d = .sl e) [he : TiV K.C e te] (hz : te.z = some z) (hc : z.cells = some zc) (hzl : zc.length = te.size) (hn : Nat.ble te.size 16777216 = true) (hx : evL l x = some v) (hv : v.cells = some vs) (hl : vs.length = te.size)
    (hk : ∀ b, k (.v (.sl (some (b, 0)) 1 1 false)) ((some b, cellsO vs e) :: L)) : EV K hp0 l L (.buildSlice t 1 #[(0, x)]) [] k :=
  ev_new (o := cellsO vs e) (f := fun b => .sl (some (b, 0)) 1 1 false) (fun call fr hp hf hs => by
    show ret2 (vbuildS K.C hp fr t 1 [(0, x)]) = _
    have e1 : Nat.beq (lenF vs) te.size = true := by rw [lenF_eq, hl]; exact beq_t _
    have e2 : repL zc 1 = zc := by rw [repL_succ, repL_zero, List.append_nil]
    have e3 : geL zc (0 * te.size + te.size) = true := geL_iff.2 (by omega)
    have e4 : putAt (0 * te.size) zc vs = vs := by
      rw [putAt_eq _ _ _ (by omega), Nat.zero_mul, List.take_zero, List.drop_of_length_le (by omega)]; simp
    simp only [vbuildS, ht.h, Option.bind_some, hd, he.h, hz, hc, Nat.one_mul, hn, e2, fillV, hf.ev hx, hv, e1, e3, Bool.and_self, e4, ret2]
    cases hp.new (cellsO vs e) <;> rfl) hk

/-! ### Slices cut -/
theorem bound_some {x : Operand} {n : Nat} {k : IntKind} {dflt : Nat} {fr : Tr V} (hf : FrV fr l) (h : evL l x = some (.i k (n : Int))) : boundV fr (some x) dflt = some n := by
  simp only [boundV, hf.ev h, Option.bind_some, natV, intV?]
  rfl
def BoundL (l : VL) (x : Option Operand) (dflt n : Nat) : Prop := ∀ fr, FrV fr l → boundV fr x dflt = some n
theorem bl_none {dflt : Nat} : BoundL l none dflt dflt := fun fr hf => rfl
theorem bl_some {x : Operand} {n dflt : Nat} {k : IntKind} (h : evL l x = some (.i k (n : Int))) : BoundL l (some x) dflt n := fun fr hf => bound_some hf h
theorem leO_t {a b : Nat} (h : a ≤ b) : leO a b = some () := by simp only [leO, ble_t h]
/-- 'x[i:j]' of a slice without open room. -/
theorem mv_sl {t e : TypeId} {x : Operand} {lo hi : Option Operand} {ti te : TI} {m c i j : Nat} (hx : evL l x = some (.sl A m c false)) [ht : TiV K.C t ti] (hd : ti.d = .sl e) [he : TiV K.C e te] (hlo : BoundL l lo 0 i) (hhi : BoundL l hi m j) (h1 : i ≤ j) (h2 : j ≤ c) : MV K hp0 l L (.slice t x lo hi none) [] (.sl (A.map fun a => (a.1, offV c i a.2 te.size)) (j - i) (c - i) false) := mv_nil (fun _ _ => rfl) fun call fr hp hf => by
  show oSlice K.C fr hp t x lo hi none = _
  simp only [oSlice, hf.ev hx, Option.bind_some, vslice, ht.h, hlo fr hf, hd, he.h, hhi fr hf, leO_t h2, leO_t h1]
  cases A <;> rfl
/-- 'x[i:j:k]' of a slice. -/
theorem mv_sl3 {t e : TypeId} {x y z : Operand} {lo : Option Operand} {ti te : TI} {m c i j q : Nat} {op : Bool} {k : IntKind} (hx : evL l x = some (.sl A m c op)) [ht : TiV K.C t ti] (hd : ti.d = .sl e) [he : TiV K.C e te] (hlo : BoundL l lo 0 i) (hhi : BoundL l (some y) m j) (hmx : evL l z = some (.i k (q : Int))) (h1 : i ≤ j) (h2 : j ≤ q) (h3 : q ≤ c) : MV K hp0 l L (.slice t x lo (some y) (some z)) [] (.sl (A.map fun a => (a.1, offV q i a.2 te.size)) (j - i) (q - i) false) := mv_nil (fun _ _ => rfl) fun call fr hp hf => by
  show oSlice K.C fr hp t x lo (some y) (some z) = _
  simp only [oSlice, hf.ev hx, Option.bind_some, vslice, ht.h, hlo fr hf, hd, he.h, hhi fr hf, bound_some hf hmx, leO_t h3, leO_t h2, leO_t h1]
  cases A <;> rfl
/-- 'x[:j]' of a slice with open room. -/
theorem mv_slop {t e : TypeId} {x : Operand} {hi : Option Operand} {ti te : TI} {b o m c j : Nat} (hx : evL l x = some (.sl (some (b, o)) m c true)) [ht : TiV K.C t ti] (hd : ti.d = .sl e) [he : TiV K.C e te] (hhi : BoundL l hi m j) (h2 : j ≤ c) : MV K hp0 l L (.slice t x none hi none) [] (.sl (some (b, o)) j c true) := mv_nil (fun _ _ => rfl) fun call fr hp hf => by
  show oSlice K.C fr hp t x none hi none = _
  have h0 : boundV fr none 0 = some 0 := rfl
  simp only [oSlice, hf.ev hx, Option.bind_some, vslice, ht.h, h0, hd, he.h, hhi fr hf, leO_t h2, leO_t (Nat.zero_le j)]
/-- 'x[i:j]' of a slice with open room, 0 < i < c. -/
theorem mv_slopi {t e : TypeId} {x : Operand} {lo hi : Option Operand} {ti te : TI} {b o m c i j : Nat} (hx : evL l x = some (.sl (some (b, o)) m c true)) [ht : TiV K.C t ti] (hd : ti.d = .sl e) [he : TiV K.C e te] (hlo : BoundL l lo 0 i) (hhi : BoundL l hi m j) (h0 : 0 < i) (h1 : i ≤ j) (h2 : j ≤ c) (hc : i < c) : MV K hp0 l L (.slice t x lo hi none) [] (.sl (some (b, o + i * te.size)) (j - i) (c - i) true) := mv_nil (fun _ _ => rfl) fun call fr hp hf => by
  show oSlice K.C fr hp t x lo hi none = _
  have e1 : Nat.beq i 0 = false := beq_f (by omega)
  have e2 : Nat.beq c i = false := beq_f (by omega)
  simp only [oSlice, hf.ev hx, Option.bind_some, vslice, ht.h, hlo fr hf, hd, he.h, hhi fr hf, leO_t h2, leO_t h1, e1, e2]
/-- An array's slice, by its address. -/
theorem mv_sla {t e : TypeId} {x : Operand} {lo hi : Option Operand} {ti te : TI} {b o n i j : Nat} (hx : evL l x = some (.p (some (b, o)))) [ht : TiV K.C t ti] (hd : ti.d = .arr n e) [he : TiV K.C e te] (hlo : BoundL l lo 0 i) (hhi : BoundL l hi n j) (h1 : i ≤ j) (h2 : j ≤ n) : MV K hp0 l L (.slice t x lo hi none) [] (.sl (some (b, offV n i o te.size)) (j - i) (n - i) false) := mv_nil (fun _ _ => rfl) fun call fr hp hf => by
  show oSlice K.C fr hp t x lo hi none = _
  simp only [oSlice, hf.ev hx, Option.bind_some, vslice, ht.h, hlo fr hf, hd, he.h, hhi fr hf, leO_t h2, leO_t h1]
theorem mv_sls {t : TypeId} {x : Operand} {lo hi : Option Operand} {ti : TI} {a : List UInt8} {i j : Nat} (hx : evL l x = some (.s a)) [ht : TiV K.C t ti] (hd : ti.d = .str) (hlo : BoundL l lo 0 i) (hhi : BoundL l hi a.length j) (h1 : i ≤ j) (h2 : j ≤ a.length) : MV K hp0 l L (.slice t x lo hi none) [] (.s ((a.drop i).take (j - i))) := mv_nil (fun _ _ => rfl) fun call fr hp hf => by
  have h := hhi fr hf
  rw [← lenF_eq] at h h2
  show oSlice K.C fr hp t x lo hi none = _
  simp only [oSlice, hf.ev hx, Option.bind_some, vslice, ht.h, hlo fr hf, hd, h, leO_t h2, leO_t h1, takeF_eq, dropF_eq]

/-! ### append, copy -/
/-- One that leaves memory as it is. -/
theorem ev_same {op : Op} {v : V} {k : VR → HV → Prop} (h : ∀ call fr hp, FrV fr l → SV hp0 hp L → vop K.C call fr hp op = some (.v v, hp)) (hk : k (.v v) L) : EV K hp0 l L op [] k := by
  unfold EV; exact fun fr hp hf hs => ⟨.v v, hp, L, ⟨0, fun n _ => h _ fr hp hf hs⟩, hs, stp_refl _ _, tch_same, hk⟩
/-- What is appended. -/
def SrcV (K : Kx) (hp0 : Bs) (L : HV) (tX : TypeId) (sz : Nat) (x : V) (n : Nat) (new : List V) : Prop := srcT K.C tX = true ∧ ∀ hp, SV hp0 hp L → srcV hp sz x = some (n, new)
theorem src_sl {tX e : TypeId} {ti : TI} {sz n c : Nat} {op : Bool} [ht : TiV K.C tX ti] (hd : ti.d = .sl e) (hr : RZ hp0 L A cs) (hl : cs.length = n * sz) (hs : 0 < sz) : SrcV K hp0 L tX sz (.sl A n c op) n cs := by
  refine ⟨by simp only [srcT, ht.h, hd], fun hp hsv => ?_⟩
  have h := hr hp hsv
  cases A with
  | none =>
    have hn : cs = [] := by
      cases cs with
      | nil => rfl
      | cons v r => obtain ⟨b, o, h1⟩ := rv_some h; simp at h1
    subst hn
    have : n = 0 := by
      rcases Nat.eq_zero_or_pos n with h | h
      · exact h
      · have := Nat.mul_pos h hs
        simp at hl
        omega
    subst this
    rfl
  | some a =>
    have := rv_load (b := a.1) (o := a.2) h
    rw [hl] at this
    simp only [srcV, this, Option.bind_some]
theorem src_str {tX : TypeId} {ti : TI} {a : List UInt8} [ht : TiV K.C tX ti] (hd : ti.d = .str) : SrcV K hp0 L tX 1 (.s a) a.length (a.map byV) := by
  refine ⟨by simp only [srcT, ht.h, hd], fun hp hsv => ?_⟩
  simp only [srcV, lenF_eq]
/-- An append that finds no room: old cells and new ones in a new object; the old one stays, or is given up. -/
def growOk (te : TI) : Bool := Nat.ble te.bytes 100000 && Nat.ble 1 te.size && te.z.isSome
theorem oAppend {call : CallF} {fr : Tr V} {tS tX : TypeId} {s x : Operand} {u v : V} (hf : FrV fr l) (hs : evL l s = some u) (hx : evL l x = some v) (hsrc : srcT K.C tX = true) : vop K.C call fr hp (.call { callee := .builtin .append, args := #[s, x], argTypes := #[tS, tX] }) = ret2 (vappend K.C hp tS u v) := by
  show oCall K.C call fr hp { callee := .builtin .append, args := #[s, x], argTypes := #[tS, tX] } = _
  have ha : evLs l [s, x] = some [u, v] := by simp [evLs, hs, hx]
  simp only [oCall, hf.evs ha, Option.bind_some, vbuiltin, hsrc]
theorem app_lim {m n : Nat} {te : TI} (h1 : m + n ≤ 1073741824) (h2 : growOk te = true) : (Nat.ble (m + n) 1073741824 && Nat.ble te.bytes 100000 && Nat.ble 1 te.size && te.z.isSome) = true := by
  unfold growOk at h2
  simp only [Bool.and_eq_true] at h2 ⊢
  exact ⟨⟨⟨ble_t h1, h2.1.1⟩, h2.1.2⟩, h2.2⟩
/-- To nil. -/
theorem ev_app0 {tS tX e : TypeId} {s x : Operand} {ti te : TI} {u : V} {n c : Nat} {op : Bool} {new : List V} {k : VR → HV → Prop} (hs : evL l s = some (.sl none 0 0 op)) (hx : evL l x = some u) [ht : TiV K.C tS ti] (hd : ti.d = .sl e) [he : TiV K.C e te] (hsrc : SrcV K hp0 L tX te.size u n new) (hn : 0 < n) (hl : n ≤ 1073741824) (hg : growOk te = true)
    (hk : ∀ b, k (.v (.sl (some (b, 0)) n n true)) ((some b, rowO new e te.size) :: L)) : EV K hp0 l L (.call { callee := .builtin .append, args := #[s, x], argTypes := #[tS, tX] }) [] k :=
  ev_new (o := rowO new e te.size) (f := fun b => .sl (some (b, 0)) n n true) (fun call fr hp hf hsv => by
    rw [oAppend hf hs hx hsrc.1]
    have e1 : Nat.ble n 0 = false := ble_f (by omega)
    have e2 := app_lim (m := 0) (n := n) (te := te) (by omega) hg
    rw [Nat.zero_add] at e2
    simp only [vappend, ht.h, Option.bind_some, hd, he.h, hsrc.2 hp hsv, Nat.zero_add, e1, e2, ret2]
    cases hp.new (rowO new e te.size) <;> rfl) hk
/-- To a slice without open room, with no room. -/
theorem ev_appG {tS tX e : TypeId} {s x : Operand} {ti te : TI} {u : V} {b o m n c : Nat} {old new : List V} {k : VR → HV → Prop} (hs : evL l s = some (.sl (some (b, o)) m c false)) (hx : evL l x = some u) [ht : TiV K.C tS ti] (hd : ti.d = .sl e) [he : TiV K.C e te] (hold : RZ hp0 L (some (b, o)) old) (hol : old.length = m * te.size) (hsrc : SrcV K hp0 L tX te.size u n new) (hgr : c < m + n) (hl : m + n ≤ 1073741824) (hg : growOk te = true)
    (hk : ∀ b, k (.v (.sl (some (b, 0)) (m + n) (m + n) true)) ((some b, rowO (old ++ new) e te.size) :: L)) : EV K hp0 l L (.call { callee := .builtin .append, args := #[s, x], argTypes := #[tS, tX] }) [] k :=
  ev_new (o := rowO (old ++ new) e te.size) (f := fun b => .sl (some (b, 0)) (m + n) (m + n) true) (fun call fr hp hf hsv => by
    rw [oAppend hf hs hx hsrc.1]
    have e1 : Nat.ble (m + n) c = false := ble_f hgr
    have e2 := app_lim (m := m) (te := te) hl hg
    have e3 := rv_load (hold hp hsv)
    rw [hol] at e3
    simp only [vappend, ht.h, Option.bind_some, hd, he.h, hsrc.2 hp hsv, e1, e2, e3, appF_eq, ret2]
    cases hp.new (rowO (old ++ new) e te.size) <;> rfl) hk
/-- To a row of the own, open. -/
theorem ev_appO {tS tX e : TypeId} {s x : Operand} {ti te : TI} {u : V} {b m n i : Nat} {old new : List V} {mk : Bool} {L' : HV} {k : VR → HV → Prop} (hs : evL l s = some (.sl (some (b, 0)) m m true)) (hx : evL l x = some u) [ht : TiV K.C tS ti] (hd : ti.d = .sl e) [he : TiV K.C e te] [hL : AtV b L (.cells old e (some te.size) mk) i] (hol : old.length = m * te.size) (hsrc : SrcV K hp0 L tX te.size u n new) (hn : 0 < n) (hl : m + n ≤ 1073741824) (hg : growOk te = true)
    (hk : ∀ b, k (.v (.sl (some (b, 0)) (m + n) (m + n) true)) (L.set i (some b, .cells (old ++ new) e (some te.size) mk))) : EV K hp0 l L (.call { callee := .builtin .append, args := #[s, x], argTypes := #[tS, tX] }) [b] k := by
  unfold EV
  intro fr hp hf hsv
  have hb := hsv.has i b _ hL.h
  obtain ⟨hp', h1, h2, h3, h4⟩ := swap_sv (o' := .cells (old ++ new) e (some te.size) mk) hsv hL.h
  refine ⟨.v (.sl (some (hp.nx, 0)) (m + n) (m + n) true), hp', _, ⟨0, fun N _ => ?_⟩, h2, h3, ⟨fun x hx => by simp only [List.mem_singleton] at hx; subst hx; exact hb.2.1, h4⟩, hk hp.nx⟩
  rw [oAppend hf hs hx hsrc.1]
  have e1 : Nat.ble (m + n) m = false := ble_f (by omega)
  have e2 := app_lim (m := m) (te := te) hl hg
  have e3 : hp.getW b = some (.cells old e (some te.size) mk) := by simp only [Hp.getW, hb.2.1.1]; exact hb.1
  have e4 : (Nat.beq (0 + m * te.size) (lenF old) && Nat.beq e e && Nat.beq te.size te.size) = true := by
    rw [lenF_eq, hol, Nat.zero_add]; simp
  have e5 : cutL old 0 (m * te.size) = some old := by
    rw [cutL_mk (by omega), List.drop_zero, List.take_of_length_le (by omega)]
  simp only [vappend, ht.h, Option.bind_some, hd, he.h, hsrc.2 hp hsv, e1, e2, e3, e4, e5, appF_eq, h1, ret2]
/-- Of nothing, to whatever. -/
theorem ev_appN {tS tX e : TypeId} {s x : Operand} {ti te : TI} {u : V} {m c : Nat} {op : Bool} {k : VR → HV → Prop} (hs : evL l s = some (.sl A m c op)) (hx : evL l x = some u) [ht : TiV K.C tS ti] (hd : ti.d = .sl e) [he : TiV K.C e te] (hsrc : SrcV K hp0 L tX te.size u 0 []) (hmc : m ≤ c) (hk : k (.v (.sl A m c op)) L) : EV K hp0 l L (.call { callee := .builtin .append, args := #[s, x], argTypes := #[tS, tX] }) [] k :=
  ev_same (fun call fr hp hf hsv => by
    rw [oAppend hf hs hx hsrc.1]
    have e1 : Nat.ble (m + 0) c = true := ble_t (by omega)
    simp only [vappend, ht.h, Option.bind_some, hd, he.h, hsrc.2 hp hsv, e1, ret2]
    cases A with
    | none => rfl
    | some a => simp only [storeV, Option.bind_some]; rfl) hk
/-- To a slice with room in one of the own objects. -/
theorem ev_appR {tS tX e E : TypeId} {s x : Operand} {ti te : TI} {u : V} {b o m n c i : Nat} {op : Bool} {C C' new : List V} {oo : Option Nat} {mk : Bool} {L' : HV} {k : VR → HV → Prop} (hs : evL l s = some (.sl (some (b, o)) m c op)) (hx : evL l x = some u) [ht : TiV K.C tS ti] (hd : ti.d = .sl e) [he : TiV K.C e te] [hL : AtV b L (.cells C E oo mk) i] (hsrc : SrcV K hp0 L tX te.size u n new) (hne : new ≠ []) (hr : m + n ≤ c) (hf : o + m * te.size + new.length ≤ C.length) (hC : overV C (o + m * te.size) new = C') [hS : SetV L i (some b, .cells C' E oo mk) L']
    (hk : k (.v (.sl (some (b, o)) (m + n) c op)) L') : EV K hp0 l L (.call { callee := .builtin .append, args := #[s, x], argTypes := #[tS, tX] }) [b] k := by
  unfold EV
  intro fr hp hfr hsv
  have hb := hsv.has i b _ hL.h
  obtain ⟨h1, h2⟩ := put_sv (o' := .cells C' E oo mk) hsv hL.h
  refine ⟨_, _, L', ⟨0, fun N _ => ?_⟩, by rw [← hS.h]; exact h1, h2, tch_put hb.2.1, hk⟩
  rw [oAppend hfr hs hx hsrc.1]
  have e1 : Nat.ble (m + n) c = true := ble_t hr
  have e3 : hp.getW b = some (.cells C E oo mk) := by simp only [Hp.getW, hb.2.1.1]; exact hb.1
  have e4 : geL C (o + m * te.size + lenF new) = true := geL_iff.2 (by rw [lenF_eq]; exact hf)
  have e5 : putAt (o + m * te.size) C new = C' := by rw [putAt_eq _ C new hf]; exact hC
  simp only [vappend, ht.h, Option.bind_some, hd, he.h, hsrc.2 hp hsv, e1]
  cases new with
  | nil => exact absurd rfl hne
  | cons a r => simp only [storeV, e3, e4, e5, Option.bind_some, ret2]
/-- 'copy' into one of the own objects. -/
theorem ev_copy {tD tX e E : TypeId} {s x : Operand} {ti te : TI} {u : V} {b o m n c i : Nat} {op : Bool} {C C' new vs : List V} {oo : Option Nat} {mk : Bool} {L' : HV} {k : VR → HV → Prop} (hs : evL l s = some (.sl (some (b, o)) m c op)) (hx : evL l x = some u) [ht : TiV K.C tD ti] (hd : ti.d = .sl e) [he : TiV K.C e te] [hL : AtV b L (.cells C E oo mk) i] (hsrc : SrcV K hp0 L tX te.size u n new) (hvs : new.take (min n m * te.size) = vs) (hne : vs ≠ []) (hf : o + vs.length ≤ C.length) (hC : overV C o vs = C') [hS : SetV L i (some b, .cells C' E oo mk) L']
    (hk : k (.v (.i .i64 (min n m : Nat))) L') : EV K hp0 l L (.call { callee := .builtin .copy, args := #[s, x], argTypes := #[tD, tX] }) [b] k := by
  unfold EV
  intro fr hp hfr hsv
  have hb := hsv.has i b _ hL.h
  obtain ⟨h1, h2⟩ := put_sv (o' := .cells C' E oo mk) hsv hL.h
  refine ⟨_, _, L', ⟨0, fun N _ => ?_⟩, by rw [← hS.h]; exact h1, h2, tch_put hb.2.1, hk⟩
  show oCall K.C (vcall K.C K.ext K.extd N) fr hp { callee := .builtin .copy, args := #[s, x], argTypes := #[tD, tX] } = _
  have ha : evLs l [s, x] = some [.sl (some (b, o)) m c op, u] := by simp [evLs, hs, hx]
  have e3 : hp.getW b = some (.cells C E oo mk) := by simp only [Hp.getW, hb.2.1.1]; exact hb.1
  have e4 : geL C (o + lenF vs) = true := geL_iff.2 (by rw [lenF_eq]; exact hf)
  have e5 : putAt o C vs = C' := by rw [putAt_eq _ C vs hf]; exact hC
  have e6 : takeF new (min n m * te.size) = vs := by rw [takeF_eq]; exact hvs
  simp only [oCall, hfr.evs ha, Option.bind_some, vbuiltin, vcopy, ht.h, hd, he.h, hsrc.2 hp hsv, e6]
  cases vs with
  | nil => exact absurd rfl hne
  | cons a r => simp only [storeV, e3, e4, e5, Option.bind_some, ret2]
theorem ev_copy0 {tD tX e : TypeId} {s x : Operand} {ti te : TI} {u : V} {m n c : Nat} {op : Bool} {new : List V} {k : VR → HV → Prop} (hs : evL l s = some (.sl A m c op)) (hx : evL l x = some u) [ht : TiV K.C tD ti] (hd : ti.d = .sl e) [he : TiV K.C e te] (hsrc : SrcV K hp0 L tX te.size u n new) (h0 : n = 0 ∨ m = 0)
    (hk : k (.v (.i .i64 0)) L) : EV K hp0 l L (.call { callee := .builtin .copy, args := #[s, x], argTypes := #[tD, tX] }) [] k :=
  ev_same (fun call fr hp hfr hsv => by
    show oCall K.C call fr hp { callee := .builtin .copy, args := #[s, x], argTypes := #[tD, tX] } = _
    have ha : evLs l [s, x] = some [.sl A m c op, u] := by simp [evLs, hs, hx]
    have e0 : min n m = 0 := by omega
    simp only [oCall, hfr.evs ha, Option.bind_some, vbuiltin, vcopy, ht.h, hd, he.h, hsrc.2 hp hsv, e0, Nat.zero_mul, takeF_eq, List.take_zero]
    cases A with
    | none => rfl
    | some a => simp only [storeV, Option.bind_some]; rfl) hk
end
end Go.Proofs.YtaahfdjobpbpjaaGreatDoor
