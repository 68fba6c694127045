/- Vw: the machine's memory against the world's. By this project. -/
import Derived.Test.YtaahfdjobpbpjaaGreatDoorVs
import Derived.Test.YtaahfdjobpbpjaaGreatDoorSxo
set_option linter.unusedVariables false
set_option linter.unusedSectionVars false
set_option linter.unusedSimpArgs false
namespace Go.Proofs.YtaahfdjobpbpjaaGreatDoor
open Go.RowKit Go.Extern.Stop

noncomputable def renEs (E : Env) (es : List (V × V × Nat)) : Option (List MapEntry) := mapO (fun e => (ren E e.1).bind fun k => (ren E e.2.1).map fun v => MapEntry.mk k v e.2.2) es
def ObjRep (E : Env) (o : VO) (e : Nat × Nat × Nat) (x : Obj) : Prop := match o with
  | .cells cs t op mk => ∃ pre l sp fz, renL E cs = some l ∧ l.all (·.oneCell') = true ∧ pre.length = e.2.1 ∧ x = .cells (pre ++ l ++ sp).toArray t fz ∧ (op = none → sp = [] ∧ e.2.2 = 0) ∧ (∀ s, op = some s → sp.length = e.2.2 * s) ∧
    (mk = false → fz = (0, 0)) ∧ (fz = (0, 0) ∨ fz = ((pre ++ l ++ sp).length, (pre ++ l ++ sp).length + 1))
  | .map es clock => e.2 = (0, 0) ∧ ∃ l, renEs E es = some l ∧ x = .map l.toArray clock
  | .iter m since seen last => e.2 = (0, 0) ∧ (match m with
    | none => x = .mapIter none since seen.toArray last
    | some h => ∃ f, E h = some f ∧ x = .mapIter (some f.1) since seen.toArray last)
theorem renEs_mono {E E' : Env} (h : E.le E') : ∀ {es : List (V × V × Nat)} {l : List MapEntry}, renEs E es = some l → renEs E' es = some l
  | [], l, hl => hl
  | e :: r, l, hl => by
    unfold renEs at hl ⊢
    rw [mapO_cons] at hl ⊢
    cases h1 : ren E e.1 with
    | none => rw [h1] at hl; simp at hl
    | some k =>
      cases h2 : ren E e.2.1 with
      | none => rw [h1, h2] at hl; simp at hl
      | some v =>
        rw [h1, h2] at hl
        rw [ren_mono h h1, ren_mono h h2]
        cases h3 : mapO (fun e : V × V × Nat => (ren E e.1).bind fun k => (ren E e.2.1).map fun v => MapEntry.mk k v e.2.2) r with
        | none => rw [h3] at hl; simp at hl
        | some t =>
          rw [h3] at hl
          have := renEs_mono h (es := r) (l := t) h3
          unfold renEs at this
          rw [this]
          exact hl
theorem ObjRep.mono {E E' : Env} (h : E.le E') {o : VO} {e : Nat × Nat × Nat} {x : Obj} (k : ObjRep E o e x) : ObjRep E' o e x := by
  cases o with
  | cells cs t op mk =>
    obtain ⟨pre, l, sp, fz, h1, h2⟩ := k
    exact ⟨pre, l, sp, fz, renL_mono h h1, h2⟩
  | map es clock =>
    obtain ⟨h0, l, h1, h2⟩ := k
    exact ⟨h0, l, renEs_mono h h1, h2⟩
  | iter m since seen last =>
    obtain ⟨h0, h1⟩ := k
    refine ⟨h0, ?_⟩
    cases m with
    | none => exact h1
    | some m => obtain ⟨f, h1, h2⟩ := h1; exact ⟨f, h _ _ h1, h2⟩
structure Rep (E : Env) (t : Tr VO) (w : World) : Prop where
  has : ∀ h o, t.get h = some o → ∃ e x, E h = some e ∧ w.heap[e.1]? = some x ∧ ObjRep E o e x
  inj : ∀ h h' o o' e e', t.get h = some o → t.get h' = some o' → E h = some e → E h' = some e' → e.1 = e'.1 → h = h' ∨ (roB h = true ∧ roB h' = true)
structure Frm (E : Env) (t : Tr VO) (w : World) (E' : Env) (t' : Tr VO) (w' : World) : Prop where
  os : w'.os = w.os
  tape : w'.tape = w.tape
  output : w'.output = w.output
  size : w.heap.size ≤ w'.heap.size
  keep : ∀ k, k < w.heap.size → (∀ h o e, t.get h = some o → E h = some e → roB h = false → e.1 ≠ k) → w'.heap[k]? = w.heap[k]?
  new : ∀ h o e, t'.get h = some o → E' h = some e → roB h = false → (∃ h0 o0 e0, t.get h0 = some o0 ∧ E h0 = some e0 ∧ roB h0 = false ∧ e0.1 = e.1) ∨ w.heap.size ≤ e.1
structure Out (E : Env) (hp : Hp) (w : World) (E' : Env) (hp' : Hp) (w' : World) : Prop where
  le : E.le E'
  off : ∀ h, (h < hp.nx ∨ hp'.nx ≤ h) → E' h = E h
  rep : Rep E' hp'.t w'
  frm : Frm E hp.t w E' hp'.t w'
/-- Handles in between stand for nothing. -/
def Free (E : Env) (a b : Nat) : Prop := ∀ h, a ≤ h → h < b → E h = none
theorem Free.mono {E : Env} {a b a' b' : Nat} (h : Free E a b) (ha : a ≤ a') (hb : b' ≤ b) : Free E a' b' := fun x h1 h2 => h x (by omega) (by omega)
theorem Out.free {E E' : Env} {hp hp' : Hp} {w w' : World} (h : Out E hp w E' hp' w') {a b : Nat} (hf : Free E a b) (ha : hp'.nx ≤ a) : Free E' a b := fun x h1 h2 => by
  rw [h.off x (.inr (by omega))]; exact hf x h1 h2
theorem Frm.refl {E : Env} {t : Tr VO} {w : World} : Frm E t w E t w := ⟨rfl, rfl, rfl, Nat.le_refl _, fun _ _ _ => rfl, fun h o e h1 h2 hr => .inl ⟨h, o, e, h1, h2, hr, rfl⟩⟩
theorem Frm.trans {E E1 E2 : Env} {t t1 t2 : Tr VO} {w w1 w2 : World} (h : Frm E t w E1 t1 w1) (k : Frm E1 t1 w1 E2 t2 w2) : Frm E t w E2 t2 w2 := by
  refine ⟨k.os.trans h.os, k.tape.trans h.tape, k.output.trans h.output, Nat.le_trans h.size k.size, fun i hi hn => ?_, fun x o e h1 h2 hr => ?_⟩
  · rw [k.keep i (by have := h.size; omega) fun x o e h1 h2 hr => ?_, h.keep i hi hn]
    rcases h.new x o e h1 h2 hr with ⟨h0, o0, e0, g1, g2, g0, g3⟩ | g
    · have := hn h0 o0 e0 g1 g2 g0
      omega
    · omega
  · rcases k.new x o e h1 h2 hr with ⟨h0, o0, e0, g1, g2, g0, g3⟩ | g
    · rcases h.new h0 o0 e0 g1 g2 g0 with ⟨h3, o3, e3, g4, g5, g7, g6⟩ | g'
      · exact .inl ⟨h3, o3, e3, g4, g5, g7, g6.trans g3⟩
      · exact .inr (by omega)
    · exact .inr (by have := h.size; omega)
theorem Out.trans {E E1 E2 : Env} {hp hp1 hp2 : Hp} {w w1 w2 : World} (h : Out E hp w E1 hp1 w1) (k : Out E1 hp1 w1 E2 hp2 w2) (h1 : hp.nx ≤ hp1.nx) (h2 : hp1.nx ≤ hp2.nx) : Out E hp w E2 hp2 w2 :=
  ⟨Env.le_trans h.le k.le, fun x hx => by rw [k.off x (by omega), h.off x (by omega)], k.rep, h.frm.trans k.frm⟩
/-- The same memory, in a world with as much. -/
theorem Rep.same {E : Env} {t : Tr VO} {w w' : World} (h : Rep E t w) (hh : w'.heap = w.heap) : Rep E t w' := ⟨fun x o ho => by rw [hh]; exact h.has x o ho, h.inj⟩
theorem out_same {E : Env} {hp hp' : Hp} {w w' : World} (h : Rep E hp.t w) (hh : w'.heap = w.heap) (ho : w'.os = w.os) (ht : w'.tape = w.tape) (hu : w'.output = w.output) (he : hp'.t = hp.t) : Out E hp w E hp' w' :=
  ⟨Env.le_refl E, fun _ _ => rfl, he ▸ h.same hh, ⟨ho, ht, hu, by rw [hh]; exact Nat.le_refl _, fun _ _ _ => by rw [hh], fun x o e h1 h2 hr => .inl ⟨x, o, e, he ▸ h1, h2, hr, rfl⟩⟩⟩
theorem out_refl {E : Env} {hp : Hp} {w : World} (h : Rep E hp.t w) : Out E hp w E hp w := out_same h rfl rfl rfl rfl rfl
def Env.upd (E : Env) (h : Nat) (e : Nat × Nat × Nat) : Env := fun x => if x = h then some e else E x
theorem Env.upd_le {E : Env} {h : Nat} {e : Nat × Nat × Nat} (hn : E h = none) : E.le (E.upd h e) := fun x y hx => by
  unfold Env.upd
  rw [if_neg (fun e => by subst e; rw [hn] at hx; simp at hx)]
  exact hx
theorem Env.upd_eq {E : Env} {h : Nat} {e : Nat × Nat × Nat} : E.upd h e h = some e := by simp [Env.upd]
theorem Env.upd_ne {E : Env} {h x : Nat} {e : Nat × Nat × Nat} (hx : x ≠ h) : E.upd h e x = E x := by simp [Env.upd, hx]
theorem Rep.lt {E : Env} {t : Tr VO} {w : World} (h : Rep E t w) {x : Nat} {o : VO} {e : Nat × Nat × Nat} (ho : t.get x = some o) (he : E x = some e) : e.1 < w.heap.size := by
  obtain ⟨e', y, h1, h2, _⟩ := h.has x o ho
  rw [he] at h1
  obtain rfl := Option.some.inj h1
  exact lt_of_heap h2
theorem new_some {hp hp' : Hp} {o : VO} {h : Nat} (hn : hp.new o = some (h, hp')) : h = hp.nx ∧ roB hp.nx = false ∧ hp'.nx = hp.nx + 2 ∧ ∀ x, hp'.t.get x = if x = hp.nx then some o else hp.t.get x := by
  unfold Hp.new at hn
  split at hn
  · rename_i hb
    simp only [Option.some.injEq, Prod.mk.injEq] at hn
    obtain ⟨rfl, rfl⟩ := hn
    simp only [Bool.and_eq_true] at hb
    have he := Nat.eq_of_beq_eq_true hb.1
    have hr : roB hp.nx = false := by
      unfold roB
      have e : Nat.beq (Nat.mod hp.nx 2) 1 = false := by rw [he]; rfl
      rw [e]
      split <;> rfl
    exact ⟨rfl, hr, rfl, fun x => Tr.get_set _ _ _⟩
  · simp at hn
/-- Handles only grow; what is told of memory turns only where the log says so. -/
def Ext (hp hp' : Hp) : Prop := hp.nx ≤ hp'.nx ∧ ∃ l, hp'.log = l ++ hp.log ∧ ∀ h, h ∉ l → hp'.t.get h = hp.t.get h
theorem Ext.nx {hp hp' : Hp} (h : Ext hp hp') : hp.nx ≤ hp'.nx := h.1
theorem ext_refl (hp : Hp) : Ext hp hp := ⟨Nat.le_refl _, [], rfl, fun _ _ => rfl⟩
theorem Ext.trans {a b c : Hp} (h : Ext a b) (k : Ext b c) : Ext a c := by
  obtain ⟨h1, l, h2, h3⟩ := h
  obtain ⟨k1, m, k2, k3⟩ := k
  exact ⟨Nat.le_trans h1 k1, m ++ l, by rw [k2, h2, List.append_assoc], fun x hx => by
    simp only [List.mem_append, not_or] at hx
    rw [k3 x hx.1, h3 x hx.2]⟩
theorem getW_some {hp : Hp} {h : Nat} {o : VO} (hg : hp.getW h = some o) : hp.t.get h = some o ∧ roB h = false := by
  unfold Hp.getW at hg
  split at hg
  · simp at hg
  · rename_i hb
    exact ⟨hg, hb⟩
theorem ext_put (hp : Hp) (h : Nat) (o : Option VO) : Ext hp (hp.put h o) := ⟨Nat.le_refl _, [h], rfl, fun x hx => by
  simp only [List.mem_singleton] at hx
  exact Tr.set_ne hp.t h x o hx⟩
theorem new_nx {hp hp' : Hp} {o : VO} {h : Nat} (hn : hp.new o = some (h, hp')) : Ext hp hp' := by
  unfold Hp.new at hn
  split at hn
  · simp only [Option.some.injEq, Prod.mk.injEq] at hn
    obtain ⟨rfl, rfl⟩ := hn
    refine ⟨?_, [hp.nx], rfl, fun x hx => ?_⟩
    · show hp.nx ≤ hp.nx + 2
      omega
    · simp only [List.mem_singleton] at hx
      exact Tr.set_ne hp.t hp.nx x _ hx
  · simp at hn
/-- A new block. -/
theorem out_new {E : Env} {hp hp' : Hp} {w : World} {o : VO} {h : Nat} {x : Obj} {k : Nat} (hn : hp.new o = some (h, hp')) (hr : Rep E hp.t w) (hf : Free E hp.nx hp'.nx) (ho : ObjRep E o (w.heap.size, 0, k) x) :
    hp.nx ≤ hp'.nx ∧ h = hp.nx ∧ Out E hp w (E.upd h (w.heap.size, 0, k)) hp' (w.alloc x) ∧ E.upd h (w.heap.size, 0, k) h = some (w.heap.size, 0, k) := by
  obtain ⟨rfl, h1, h2, h3⟩ := new_some hn
  have hE : E hp.nx = none := hf _ (Nat.le_refl _) (by omega)
  have hle := Env.upd_le (e := (w.heap.size, 0, k)) hE
  have heap : ∀ i, i < w.heap.size → (w.alloc x).heap[i]? = w.heap[i]? := fun i hi => by
    show (w.heap.push x)[i]? = _
    rw [Array.getElem?_push, if_neg (by omega)]
  have htop : (w.alloc x).heap[w.heap.size]? = some x := by
    show (w.heap.push x)[w.heap.size]? = _
    simp
  refine ⟨by omega, rfl, ⟨hle, fun y hy => Env.upd_ne (by omega), ⟨fun y q hq => ?_, fun y y' q q' e e' hq hq' he he' hee => ?_⟩, ⟨rfl, rfl, rfl, ?_, fun i hi _ => heap i hi, fun y q e hq he hro => ?_⟩⟩, Env.upd_eq⟩
  · rw [h3] at hq
    by_cases hy : y = hp.nx
    · subst hy
      rw [if_pos rfl] at hq
      obtain rfl := Option.some.inj hq
      exact ⟨_, x, Env.upd_eq, htop, ho.mono hle⟩
    · rw [if_neg hy] at hq
      obtain ⟨e, z, g1, g2, g3⟩ := hr.has y q hq
      exact ⟨e, z, hle _ _ g1, by rw [heap _ (lt_of_heap g2)]; exact g2, g3.mono hle⟩
  · rw [h3] at hq hq'
    by_cases hy : y = hp.nx <;> by_cases hy' : y' = hp.nx
    · rw [hy, hy']; exact .inl rfl
    · rw [if_neg hy'] at hq'
      rw [Env.upd_ne hy'] at he'
      rw [hy, Env.upd_eq] at he
      obtain rfl := Option.some.inj he
      have := hr.lt hq' he'
      simp at hee
      omega
    · rw [if_neg hy] at hq
      rw [Env.upd_ne hy] at he
      rw [hy', Env.upd_eq] at he'
      obtain rfl := Option.some.inj he'
      have := hr.lt hq he
      simp at hee
      omega
    · rw [if_neg hy] at hq
      rw [if_neg hy'] at hq'
      rw [Env.upd_ne hy] at he
      rw [Env.upd_ne hy'] at he'
      exact hr.inj _ _ _ _ _ _ hq hq' he he' hee
  · show w.heap.size ≤ (w.heap.push x).size
    simp
  · rw [h3] at hq
    by_cases hy : y = hp.nx
    · subst hy
      rw [Env.upd_eq] at he
      obtain rfl := Option.some.inj he
      exact .inr (Nat.le_refl _)
    · rw [if_neg hy] at hq
      rw [Env.upd_ne hy] at he
      exact .inl ⟨y, q, e, hq, he, hro, rfl⟩
/-- One object written over. -/
theorem out_putG {E : Env} {hp : Hp} {w w' : World} {h : Nat} {o o' : VO} {e : Nat × Nat × Nat} {x' : Obj} (hlt : roB h = false) (hr : Rep E hp.t w) (hg : hp.t.get h = some o) (hE : E h = some e) (ho : ObjRep E o' e x') (hw : w'.heap[e.1]? = some x')
    (hne : ∀ k, k ≠ e.1 → k < w.heap.size → w'.heap[k]? = w.heap[k]?) (hs : w.heap.size ≤ w'.heap.size) (hos : w'.os = w.os) (ht : w'.tape = w.tape) (hu : w'.output = w.output) : Out E hp w E (hp.put h (some o')) w' := by
  have hget : ∀ y, (hp.put h (some o')).t.get y = if y = h then some o' else hp.t.get y := fun y => Tr.get_set _ _ _
  refine ⟨Env.le_refl E, fun _ _ => rfl, ⟨fun y q hq => ?_, fun y y' q q' f f' hq hq' hf hf' hee => ?_⟩, ⟨hos, ht, hu, hs, fun k hk hn => hne k (fun hke => hn h o e hg hE hlt hke.symm) hk, fun y q f hq hf hro => ?_⟩⟩
  · rw [hget] at hq
    by_cases hy : y = h
    · subst hy
      rw [if_pos rfl] at hq
      obtain rfl := Option.some.inj hq
      exact ⟨e, x', hE, hw, ho⟩
    · rw [if_neg hy] at hq
      obtain ⟨f, z, g1, g2, g3⟩ := hr.has y q hq
      refine ⟨f, z, g1, ?_, g3⟩
      rw [hne f.1 (fun hfe => by
        rcases hr.inj _ _ _ _ _ _ hq hg g1 hE hfe with h | h
        · exact hy h
        · rw [hlt] at h; simp at h) (lt_of_heap g2)]
      exact g2
  · have live : ∀ y q, (hp.put h (some o')).t.get y = some q → ∃ q', hp.t.get y = some q' := fun y q hq => by
      rw [hget] at hq
      by_cases hy : y = h
      · subst hy; exact ⟨o, hg⟩
      · rw [if_neg hy] at hq; exact ⟨q, hq⟩
    obtain ⟨p, hp1⟩ := live y q hq
    obtain ⟨p', hp2⟩ := live y' q' hq'
    exact hr.inj _ _ _ _ _ _ hp1 hp2 hf hf' hee
  · rw [hget] at hq
    by_cases hy : y = h
    · subst hy; exact .inl ⟨y, o, f, hg, hf, hro, rfl⟩
    · rw [if_neg hy] at hq; exact .inl ⟨y, q, f, hq, hf, hro, rfl⟩

/-! ### Frames -/
structure FrR (E : Env) (fr : Tr V) (a : Act) : Prop where
  look : ∀ t v, fr.get t = some v → ∃ x, a.tmps[t]? = some x ∧ ren E v = some x
  gl : ∀ g, g < gMax → E g = some (g, 0, 0)
theorem out_put {E : Env} {hp : Hp} {w w' : World} {h : Nat} {o o' : VO} {e : Nat × Nat × Nat} {x' : Obj} (hlt : roB h = false) (hr : Rep E hp.t w) (hg : hp.t.get h = some o) (hE : E h = some e) (ho : ObjRep E o' e x') (hw : w'.heap[e.1]? = some x')
    (hne : ∀ k, k ≠ e.1 → w'.heap[k]? = w.heap[k]?) (hs : w'.heap.size = w.heap.size) (hos : w'.os = w.os) (ht : w'.tape = w.tape) (hu : w'.output = w.output) : Out E hp w E (hp.put h (some o')) w' :=
  out_putG hlt hr hg hE ho hw (fun k hk _ => hne k hk) (by omega) hos ht hu
theorem FrR.mono {E E' : Env} {fr : Tr V} {a : Act} (h : FrR E fr a) (k : E.le E') : FrR E' fr a :=
  ⟨fun t v hv => by obtain ⟨x, h1, h2⟩ := h.look t v hv; exact ⟨x, h1, ren_mono k h2⟩, fun g hg => k _ _ (h.gl g hg)⟩
theorem FrR.ev {E : Env} {fr : Tr V} {a : Act} (h : FrR E fr a) {x : Operand} {v : V} (hv : evV fr x = some v) : ren E v = some (a.eval x) := by
  cases x with
  | tmp t =>
    obtain ⟨y, h1, h2⟩ := h.look t v hv
    simp only [Act.eval]
    rw [Array.getD_eq_getD_getElem?, h1]
    exact h2
  | const c => exact ofVal_ren hv E
  | global g =>
    simp only [evV] at hv
    split at hv
    · rename_i hb
      simp at hv
      subst hv
      have hg : g < gMax := by simpa [Nat.blt_eq] using hb
      simp [ren, h.gl g hg, Act.eval]
    · simp at hv
  | func f =>
    simp [evV] at hv
    subst hv
    simp [ren, renL, Act.eval]
theorem FrR.evs {E : Env} {fr : Tr V} {a : Act} (h : FrR E fr a) : ∀ {xs : List Operand} {vs : List V}, mapO (evV fr) xs = some vs → renL E vs = some (xs.map a.eval)
  | [], vs, hv => by simp [mapO_nil] at hv; subst hv; rfl
  | x :: r, vs, hv => by
    rw [mapO_cons] at hv
    cases h1 : evV fr x with
    | none => rw [h1] at hv; simp at hv
    | some v =>
      rw [h1] at hv
      cases h2 : mapO (evV fr) r with
      | none => rw [h2] at hv; simp at hv
      | some us =>
        rw [h2] at hv
        simp at hv
        subst hv
        simp [renL, h.ev h1, h.evs h2]
theorem FrR.put {E : Env} {n : Nat} {fr fr' : Tr V} {a : Act} {d : Option Tmp} {v : V} {x : Value} (h : FrR E fr a) (hn : n ≤ trMax) (hsz : a.tmps.size = n) (hs : setD n fr d v = some fr') (hx : ren E v = some x) : FrR E fr' (a.put d x) := by
  cases d with
  | none => simp [setD] at hs; subst hs; exact ⟨h.look, h.gl⟩
  | some t =>
    simp only [setD] at hs
    split at hs
    · rename_i hb
      simp at hs
      subst hs
      have ht : t < n := by simpa [Nat.blt_eq] using hb
      refine ⟨fun s u hu => ?_, h.gl⟩
      rw [Tr.get_set] at hu
      simp only [Act.put, Array.getElem?_setIfInBounds]
      by_cases hst : s = t
      · subst hst
        rw [if_pos rfl] at hu
        obtain rfl := Option.some.inj hu
        exact ⟨x, by simp [hsz, ht], hx⟩
      · rw [if_neg hst] at hu
        obtain ⟨y, h1, h2⟩ := h.look s u hu
        exact ⟨y, by rw [if_neg (fun e => hst e.symm)]; exact h1, h2⟩
    · simp at hs
theorem put_size (a : Act) (d : Option Tmp) (v : Value) : (a.put d v).tmps.size = a.tmps.size := by cases d <;> simp [Act.put]
theorem put_df (a : Act) (d : Option Tmp) (v : Value) : (a.put d v).defers = a.defers := by cases d <;> simp [Act.put]

/-! ### What an operation comes to -/
def CallRes (E : Env) (hp : Hp) (w : World) (r : VR) (hp' : Hp) : Ending → World → Prop := fun e w' => ∃ E', Out E hp w E' hp' w' ∧ match r with
  | .v v => ∃ x, ren E' v = some x ∧ e = .returned x
  | .pan v => ∃ x, ren E' v = some x ∧ e = .panicked [{ v := x, recovered := false }]
def Upon (P : Program) (E : Env) (hp : Hp) (w : World) (r : VR) (hp' : Hp) : Result Next → Prop
  | .ok (.value x) w' => ∃ v E', r = .v v ∧ ren E' v = some x ∧ Out E hp w E' hp' w'
  | .ok .skip w' => ∃ E', r = .v undV ∧ Out E hp w E' hp' w'
  | .ok (.enter f args) w' => w' = w ∧ Calls P f args w (CallRes E hp w r hp')
  | .halt (.panic x) w' => ∃ v E', r = .pan v ∧ ren E' v = some x ∧ Out E hp w E' hp' w'
  | _ => False
/-- What the tables say of a type. -/
def tdOf : TypeDesc → TD
  | .bool => .bool
  | .int k => .int k
  | .string => .str
  | .unsafePointer => .usf
  | .pointer e => .ptr e
  | .slice e => .sl e
  | .array n e => .arr n e
  | .map k e => .map k e
  | .struct fs => .st (fs.toList.map fun f => (f.offset, f.type))
  | .interface _ => .ifc
  | .func _ _ _ => .fn
  | _ => .oth
structure TIok (P : Program) (t : TypeId) (ti : TI) : Prop where
  und : ∃ D, P.underlying t = some D ∧ tdOf D = ti.d
  info : ∃ i, P.info? t = some i ∧ i.size = ti.size ∧ i.bytes = ti.bytes ∧ (∀ z, ti.z = some z → ∃ zv, i.zero = some zv ∧ ofVal zv = some z)
  zl : ∀ z, ti.z = some z → ∃ zc, z.cells = some zc ∧ zc.length = ti.size
  eq : ti.eq = true → (∀ i, P.info? t = some i → i.comparable = true) ∧ P.eqGuardType P.depth t = false ∧ P.stoodInHeld t = false ∧ ∀ fs, P.underlying t = some (.struct fs) → ∀ f ∈ fs, f.name ≠ "_"
structure COk (P : Program) (C : Cx) : Prop where
  T : ∀ t ti, C.T.get t = some ti → TIok P t ti
  F : ∀ f fn, C.F.get f = some fn → P.funcs[f]? = some fn ∧ (fn.name == "runtime.NumGoroutine") = false
  M : ∀ t name f, C.M t name = some f → ∀ v w, (method (P.types.size + Made.depth) t v name).run P w = .ok (f, v) w
  mo : P.follows .mixedOrders = true
section
variable {P : Program} {C : Cx} {t : TypeId} {ti : TI}
theorem TIok.run_und (h : TIok P t ti) (w : World) : ∃ D, P.underlying t = some D ∧ tdOf D = ti.d ∧ (underlying t).run P w = .ok D w := by
  obtain ⟨D, h1, h2⟩ := h.und
  exact ⟨D, h1, h2, run_underlying h1 w⟩
theorem TIok.size (h : TIok P t ti) (w : World) : (sizeOf t).run P w = .ok ti.size w := by
  obtain ⟨i, h1, h2, _⟩ := h.info
  simp [sizeOf, typeInfo, h1, h2]
theorem TIok.tinfo (h : TIok P t ti) (w : World) : ∃ i, P.info? t = some i ∧ i.size = ti.size ∧ i.bytes = ti.bytes ∧ (typeInfo t).run P w = .ok i w := by
  obtain ⟨i, h1, h2, h3, _⟩ := h.info
  exact ⟨i, h1, h2, h3, by simp [typeInfo, h1]⟩
theorem TIok.zero (h : TIok P t ti) {z : V} (hz : ti.z = some z) (w : World) : ∃ zv, (zeroValue t).run P w = .ok zv w ∧ ∀ E, ren E z = some zv := by
  obtain ⟨i, h1, _, _, h2⟩ := h.info
  obtain ⟨zv, h3, h4⟩ := h2 z hz
  exact ⟨zv, by simp [zeroValue, typeInfo, h1, h3], fun E => ofVal_ren h4 E⟩
theorem TIok.agg (h : TIok P t ti) (w : World) : (isAgg t).run P w = .ok ti.d.row w := by
  obtain ⟨D, h1, h2⟩ := h.und
  unfold isAgg
  rw [Sem.run_bind, run_underlying h1 w, ← h2]
  cases D <;> rfl
theorem TIok.sl (h : TIok P t ti) {e : TypeId} (hd : ti.d = .sl e) : P.underlying t = some (.slice e) := by
  obtain ⟨D, h1, h2⟩ := h.und
  rw [hd] at h2
  cases D <;> simp [tdOf] at h2
  subst h2; exact h1
theorem TIok.arr (h : TIok P t ti) {n : Nat} {e : TypeId} (hd : ti.d = .arr n e) : P.underlying t = some (.array n e) := by
  obtain ⟨D, h1, h2⟩ := h.und
  rw [hd] at h2
  cases D <;> simp [tdOf] at h2
  obtain ⟨rfl, rfl⟩ := h2; exact h1
theorem TIok.int (h : TIok P t ti) {k : IntKind} (hd : ti.d = .int k) : P.underlying t = some (.int k) := by
  obtain ⟨D, h1, h2⟩ := h.und
  rw [hd] at h2
  cases D <;> simp [tdOf] at h2
  subst h2; exact h1
theorem TIok.str (h : TIok P t ti) (hd : ti.d = .str) : P.underlying t = some .string := by
  obtain ⟨D, h1, h2⟩ := h.und
  rw [hd] at h2
  cases D <;> simp [tdOf] at h2
  exact h1
theorem TIok.bool (h : TIok P t ti) (hd : ti.d = .bool) : P.underlying t = some .bool := by
  obtain ⟨D, h1, h2⟩ := h.und
  rw [hd] at h2
  cases D <;> simp [tdOf] at h2
  exact h1
theorem TIok.usf (h : TIok P t ti) (hd : ti.d = .usf) : P.underlying t = some .unsafePointer := by
  obtain ⟨D, h1, h2⟩ := h.und
  rw [hd] at h2
  cases D <;> simp [tdOf] at h2
  exact h1
theorem TIok.ptr (h : TIok P t ti) {e : TypeId} (hd : ti.d = .ptr e) : P.underlying t = some (.pointer e) := by
  obtain ⟨D, h1, h2⟩ := h.und
  rw [hd] at h2
  cases D <;> simp [tdOf] at h2
  subst h2; exact h1
theorem TIok.map (h : TIok P t ti) {k e : TypeId} (hd : ti.d = .map k e) : P.underlying t = some (.map k e) := by
  obtain ⟨D, h1, h2⟩ := h.und
  rw [hd] at h2
  cases D <;> simp [tdOf] at h2
  obtain ⟨rfl, rfl⟩ := h2; exact h1
theorem TIok.st (h : TIok P t ti) {fs : List (Nat × TypeId)} (hd : ti.d = .st fs) : ∃ Fs, P.underlying t = some (.struct Fs) ∧ Fs.toList.map (fun f => (f.offset, f.type)) = fs := by
  obtain ⟨D, h1, h2⟩ := h.und
  rw [hd] at h2
  cases D <;> simp [tdOf] at h2
  exact ⟨_, h1, h2⟩
theorem TIok.ifc (h : TIok P t ti) (hd : ti.d = .ifc) : ∃ ms, P.underlying t = some (.interface ms) := by
  obtain ⟨D, h1, h2⟩ := h.und
  rw [hd] at h2
  cases D <;> simp [tdOf] at h2
  exact ⟨_, h1⟩
theorem TIok.fn (h : TIok P t ti) (hd : ti.d = .fn) : ∃ a b c, P.underlying t = some (.func a b c) := by
  obtain ⟨D, h1, h2⟩ := h.und
  rw [hd] at h2
  cases D <;> simp [tdOf] at h2
  exact ⟨_, _, _, h1⟩
end
end Go.Proofs.YtaahfdjobpbpjaaGreatDoor
