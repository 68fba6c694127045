/- Calls that write into the caller's own blocks; rows told cell by cell. By this project. -/
import Derived.Test.YtfanghiakbddcaaPlain
set_option linter.unusedVariables false
set_option linter.unusedSimpArgs false
set_option maxRecDepth 100000
namespace Go.Proofs.Ytfanghiakbddcaa
open Go.RowKit Go.Extern.Stop

section
variable {P : Program} {n : Nat} {w0 : World} {l : FL} {L : HL} {Q : GQ} {ops : Array Oper} {rest : List Oper}
/-- A call of f, where the caller knows L; it may write there. -/
def ClS (P : Program) (f : FuncId) (args : Array Value) (w0 : World) (L : HL) (R : Value → HL → Prop) : Prop := ∀ w, St w0 w L → Calls P f args w fun e w' => ∃ v N, e = .returned v ∧ St w0 w' N ∧ R v N
theorem cls_of_g {f : FuncId} {fn : Func} {c : Code} {vs : List Value} {R : Value → HL → Prop} (hf : P.funcs[f]? = some fn) (hb : fn.body = some c) (hn : Nat.ble vs.length fn.ntmps = true)
    (h : G P fn.ntmps w0 c (argsFL 0 vs) L (GQend P w0 fn.results R)) : ClS P f vs.toArray w0 L R := by
  unfold G at h
  intro w hs
  refine calls_of_wp hf hb (wp_mono (h _ w ⟨rfl, by have := Nat.le_of_ble_eq_true hn; simp; omega, fun t v hv => ?_⟩ hs) fun e a' w' ⟨l', L', h1, h2, h3⟩ => ?_)
  · obtain ⟨_, h2⟩ := argsFL_look vs 0 t v hv
    have hlt : t < vs.length := (List.getElem?_eq_some_iff.1 h2).1
    simp only [Nat.sub_zero] at h2
    rw [Array.getElem?_append_left (by simpa using hlt)]
    simpa using h2
  · cases e <;> first | exact h3.elim | (obtain ⟨v, hv, hR⟩ := h3; exact ⟨h1.defers, v, hv a' _ w' fn rfl h1 h2, v, L', rfl, h2, hR⟩)
theorem gl_callS {f : FuncId} {xs : List Operand} {vs : List Value} {ts : Array TypeId} {d : Nat} {ty : TypeId} {ps : String} {af : Array Edge} {gd : Option (Nat × Bool)} {R : Value → HL → Prop}
    (hw : Want ops l ⟨some d, .call { callee := .value (.func f), args := xs.toArray, argTypes := ts }, ty, ps, af, gd⟩) (hlt : Nat.ble (d + 1) n = true) (hx : evls l xs = some vs) (hc : callT P f = true) (hC : ClS P f vs.toArray w0 L R)
    (k : ∀ v N, R v N → GL P n w0 ops rest ((d, v) :: l) N Q) : GL P n w0 ops (⟨some d, .call { callee := .value (.func f), args := xs.toArray, argTypes := ts }, ty, ps, af, gd⟩ :: rest) l L Q := by
  unfold GL at k ⊢
  intro a w hf hs
  refine wpList_step fun K hK => ?_
  rw [if_pos (hw a n hf)]
  unfold Oper.wp
  rw [run_call hf hx hc]
  refine Calls.mono (hC w hs) fun e w' ⟨v, N, he, hN, hR⟩ => ?_
  subst he
  exact hK _ _ (k v N hR _ _ (hf.put d (Nat.le_of_ble_eq_true hlt) v) hN)
theorem g_know {c : Code} {φ : Prop} (h : ∀ w, St w0 w L → φ) (k : φ → G P n w0 c l L Q) : G P n w0 c l L Q := by
  unfold G at *
  exact fun a w hf hs => k (h w hs) a w hf hs
theorem gl_know {φ : Prop} (h : ∀ w, St w0 w L → φ) (k : φ → GL P n w0 ops rest l L Q) : GL P n w0 ops rest l L Q := by
  unfold GL at *
  exact fun a w hf hs => k (h w hs) a w hf hs

/-! ### Cell by cell -/
/-- Cell j of block b holds v. -/
def Has (L : HL) (b j : Nat) (v : Value) : Prop := ∃ (i : Nat) (C : List Value) (E : TypeId), L[i]? = some (some b, .cells C.toArray E (0, 0)) ∧ C[j]? = some v
/-- Block b has m cells. -/
def Room (L : HL) (b m : Nat) : Prop := ∃ (i : Nat) (C : List Value) (E : TypeId), L[i]? = some (some b, .cells C.toArray E (0, 0)) ∧ m ≤ C.length
def Old (L : HL) (b : Nat) : Prop := ∃ (i : Nat) (o : Obj), L[i]? = some (some b, o)
theorem Has.old {b j : Nat} {v : Value} (h : Has L b j v) : Old L b := by obtain ⟨i, C, E, h1, _⟩ := h; exact ⟨i, _, h1⟩
theorem Room.old {b m : Nat} (h : Room L b m) : Old L b := by obtain ⟨i, C, E, h1, _⟩ := h; exact ⟨i, _, h1⟩
theorem Room.less {b m k : Nat} (h : Room L b m) (hk : k ≤ m) : Room L b k := by obtain ⟨i, C, E, h1, h2⟩ := h; exact ⟨i, C, E, h1, by omega⟩
theorem Has.more {b j : Nat} {v : Value} {x : Option Nat × Obj} (h : Has L b j v) : Has (x :: L) b j v := by obtain ⟨i, C, E, h1, h2⟩ := h; exact ⟨i + 1, C, E, by simpa using h1, h2⟩
theorem Room.more {b m : Nat} {x : Option Nat × Obj} (h : Room L b m) : Room (x :: L) b m := by obtain ⟨i, C, E, h1, h2⟩ := h; exact ⟨i + 1, C, E, by simpa using h1, h2⟩
theorem Old.more {b : Nat} {x : Option Nat × Obj} (h : Old L b) : Old (x :: L) b := by obtain ⟨i, o, h1⟩ := h; exact ⟨i + 1, o, by simpa using h1⟩
theorem not_old {w : World} {b : Nat} {o : Obj} (h : St w0 w ((some b, o) :: L)) : ¬ Old L b := fun ⟨i, o', hi⟩ => by
  have := h.one 0 (i + 1) b o o' rfl (by simpa using hi)
  omega
theorem Has.lies {b j : Nat} {v : Value} (h : Has L b j v) : Lies w0 L (some ⟨b, j, none⟩) [v] := fun w hs => by
  obtain ⟨i, C, E, h1, h2⟩ := h
  have hb := (hs.has i b _ h1).1
  refine ⟨_, rfl, fun k u hu => ?_⟩
  cases k with
  | zero =>
    simp at hu
    subst hu
    have e0 : (⟨b, j, none⟩ : Addr).add 0 = ⟨b, j, none⟩ := rfl
    rw [e0]
    simp [World.cell?, hb, h2]
  | succ k => simp at hu
theorem has_rs {b o : Nat} {cs : List Value} (h : ∀ (t : Nat) (v : Value), cs[t]? = some v → Has L b (o + t) v) : RS w0 L (some ⟨b, o, none⟩) cs := fun w hs j v hv => by
  obtain ⟨i, C, E, h1, h2⟩ := h j v hv
  have hb := (hs.has i b _ h1).1
  refine ⟨_, rfl, ?_⟩
  rw [Addr.add_mid]
  simp [World.cell?, hb, h2]
theorem has_row {i : Nat} {b : Nat} {C : List Value} {E : TypeId} {j : Nat} {v : Value} (h : L[i]? = some (some b, .cells C.toArray E (0, 0))) (hj : C[j]? = some v) : Has L b j v := ⟨i, C, E, h, hj⟩
/-- One cell has been written. -/
structure Chg (L L' : HL) (b o : Nat) (v : Value) : Prop where
  has : Has L' b o v
  keep : ∀ b' j u, (b' ≠ b ∨ j ≠ o) → Has L b' j u → Has L' b' j u
  room : ∀ b' m, Room L b' m → Room L' b' m
  old : ∀ b', Old L b' → Old L' b'
theorem chg_set {i b o : Nat} {C : List Value} {E : TypeId} {v : Value} (h : L[i]? = some (some b, .cells C.toArray E (0, 0))) (ho : o < C.length) : Chg L (L.set i (some b, .cells (C.set o v).toArray E (0, 0))) b o v := by
  have hi : i < L.length := (List.getElem?_eq_some_iff.1 h).1
  refine ⟨⟨i, C.set o v, E, by simp [hi], by simp [ho]⟩, fun b' j u hne ⟨k, D, F, h1, h2⟩ => ?_, fun b' m ⟨k, D, F, h1, h2⟩ => ?_, fun b' ⟨k, x, h1⟩ => ?_⟩
  · by_cases e : i = k
    · subst e
      rw [h] at h1
      simp only [Option.some.injEq, Prod.mk.injEq, Obj.cells.injEq] at h1
      obtain ⟨rfl, h3, rfl, _⟩ := h1
      have h3 : C = D := by simpa using congrArg Array.toList h3
      subst h3
      refine ⟨i, C.set o v, E, by simp [hi], ?_⟩
      rw [List.getElem?_set_ne (by rcases hne with e | e; exact absurd rfl e; omega)]
      exact h2
    · exact ⟨k, D, F, by rw [List.getElem?_set_ne e]; exact h1, h2⟩
  · by_cases e : i = k
    · subst e
      rw [h] at h1
      simp only [Option.some.injEq, Prod.mk.injEq, Obj.cells.injEq] at h1
      obtain ⟨rfl, h3, rfl, _⟩ := h1
      have h3 : C = D := by simpa using congrArg Array.toList h3
      subst h3
      exact ⟨i, C.set o v, E, by simp [hi], by simpa using h2⟩
    · exact ⟨k, D, F, by rw [List.getElem?_set_ne e]; exact h1, h2⟩
  · by_cases e : i = k
    · subst e
      rw [h] at h1
      simp only [Option.some.injEq, Prod.mk.injEq] at h1
      obtain ⟨rfl, _⟩ := h1
      exact ⟨i, .cells (C.set o v).toArray E (0, 0), by simp [hi]⟩
    · exact ⟨k, x, by rw [List.getElem?_set_ne e]; exact h1⟩
theorem ef_stH {K : FL → HL → Prop} {t : TypeId} {x y : Operand} {b o : Nat} {v : Value} {ty : TypeId} {ps : String} {af : Array Edge} {gd : Option (Nat × Bool)} (hx : evl l x = some (.pointer (some ⟨b, o, none⟩))) (hy : evl l y = some v) [hz : SizeT P t 1] (hr : Room L b (o + 1)) (h1 : v.oneCell' = true)
    (k : ∀ L', Chg L L' b o v → K l L') : EF P n w0 l L ⟨none, .store t x y, ty, ps, af, gd⟩ K := by
  obtain ⟨i, C, E, h2, h3⟩ := hr
  haveI : AtL b L (.cells C.toArray E (0, 0)) i := ⟨h2⟩
  haveI : SetL L i (some b, .cells (C.set o v).toArray E (0, 0)) (L.set i (some b, .cells (C.set o v).toArray E (0, 0))) := ⟨rfl⟩
  exact ef_st hx hy (by omega) (by simp) h1 (k _ (chg_set h2 (by omega)))
theorem overC_set (C : List Value) (o : Nat) (v : Value) (h : o < C.length) : overC C o [v] = C.set o v := by
  rw [List.set_eq_take_append_cons_drop, if_pos h]; simp [overC]
/-- One element more, behind m of room c. What was there is there still, but for the place behind the m-th. -/
structure Ap1 (L L' : HL) (A : Option Addr) (m c : Nat) (f : Nat → Value) (v : Value) (b o c' : Nat) : Prop where
  cap : m + 1 ≤ c'
  room : Room L' b (o + c')
  rows : ∀ t, t < m → Has L' b (o + t) (f t)
  last : Has L' b (o + m) v
  keep : ∀ b' j u, (b' ≠ b ∨ j ≠ o + m) → Has L b' j u → Has L' b' j u
  rooms : ∀ b' k, Room L b' k → Room L' b' k
  olds : ∀ b', Old L b' → Old L' b'
  which : (A = some ⟨b, o, none⟩ ∧ c' = c ∧ m < c) ∨ (o = 0 ∧ ¬ Old L b)
theorem gl_ap1 {tS tX e e' : TypeId} {s x : Operand} {A B : Option Addr} {m c c2 bs d : Nat} {z v : Value} {f : Nat → Value} {ty : TypeId} {ps : String} {af : Array Edge} {gd : Option (Nat × Bool)} (hw : Want ops l ⟨some d, .call { callee := .builtin .append, args := #[s, x], argTypes := #[tS, tX] }, ty, ps, af, gd⟩) (hlt : Nat.ble (d + 1) n = true)
    (hs : evl l s = some (.slice A m c)) (hx : evl l x = some (.slice B 1 c2)) [tS' : SliceT P tS e] [tX' : SliceT P tX e'] [hz : SizeT P e 1] [hb : BytesT P e bs] [hZ : ZeroT P e z] {zc : List Value} [hzc : CellsOf z zc] (hzl : zc.length = 1)
    (hmc : m ≤ c) (hA : 0 < c → ∃ b o, A = some ⟨b, o, none⟩ ∧ Room L b (o + c) ∧ ∀ t, t < m → Has L b (o + t) (f t)) (hnew : RS w0 L B [v]) (h1 : v.oneCell' = true) (hf1 : ∀ t, t < m → (f t).oneCell' = true) (h63 : m + 1 ≤ 9223372036854775807) (hfit : (m + 1 + (m + 1) / 4 + 192) * bs ≤ 281474976710656)
    (k : ∀ L' b o c', Ap1 L L' A m c f v b o c' → GL P n w0 ops rest ((d, .slice (some ⟨b, o, none⟩) (m + 1) c') :: l) L' Q) :
    GL P n w0 ops (⟨some d, .call { callee := .builtin .append, args := #[s, x], argTypes := #[tS, tX] }, ty, ps, af, gd⟩ :: rest) l L Q := by
  by_cases hg : m < c
  · obtain ⟨b, o, rfl, hr, hfs⟩ := hA (by omega)
    have hr' := hr
    obtain ⟨i, C, E, h2, h3⟩ := hr
    haveI : AtL b L (.cells C.toArray E (0, 0)) i := ⟨h2⟩
    haveI : SetL L i (some b, .cells (C.set (o + m) v).toArray E (0, 0)) (L.set i (some b, .cells (C.set (o + m) v).toArray E (0, 0))) := ⟨rfl⟩
    have hc := chg_set (v := v) h2 (o := o + m) (by omega)
    refine gl_w hw (ef_appR (C := C) (C' := C.set (o + m) v) (sz := 1) (new := [v]) hlt hs hx hnew rfl (by simpa using h1) (by decide) (by omega) (by omega) (by rw [Nat.mul_one]; exact overC_set C _ v (by omega)) ?_)
    exact k _ b o c ⟨by omega, hc.room _ _ hr', fun t ht => hc.keep _ _ _ (.inr (by omega)) (hfs t ht), hc.has, hc.keep, hc.room, hc.old, .inl ⟨rfl, rfl, hg⟩⟩
  · obtain rfl : m = c := by omega
    have hold : RS w0 L A ((List.range m).map f) := by
      by_cases hm : 0 < m
      · obtain ⟨b, o, rfl, hr, hfs⟩ := hA hm
        refine has_rs fun t u hu => ?_
        rw [List.getElem?_map] at hu
        cases ht : (List.range m)[t]? with
        | none => rw [ht] at hu; simp at hu
        | some t' =>
          obtain ⟨t1, t2⟩ := List.getElem?_eq_some_iff.1 ht
          simp at t1 t2
          subst t2
          rw [ht] at hu
          simp at hu
          subst hu
          exact hfs t t1
      · have : m = 0 := by omega
        subst this
        exact rs_nil
    refine gl_w hw (ef_appG (sz := 1) (old := (List.range m).map f) (new := [v]) hlt hs hx hzl hold (by simp) hnew rfl (by simpa using h1) (by decide) (by omega) h63 hfit ?_)
    intro b sp c' g1 g2
    refine gl_know (fun w hs => not_old hs) fun hno => ?_
    have hrow : ((some b, Obj.cells ((List.range m).map f ++ [v] ++ sp).toArray e (0, 0)) :: L)[0]? = some (some b, .cells ((List.range m).map f ++ [v] ++ sp).toArray e (0, 0)) := rfl
    refine k _ b 0 c' ⟨g1, ⟨0, _, _, hrow, by simp [g2]; omega⟩, fun t ht => ?_, ?_, fun b' j u _ h => h.more, fun b' k h => h.more, fun b' h => h.more, .inr ⟨rfl, hno⟩⟩
    · refine has_row hrow ?_
      rw [Nat.zero_add, List.append_assoc, List.getElem?_append_left (by simpa using ht)]
      simp [ht]
    · refine has_row hrow ?_
      rw [Nat.zero_add, List.append_assoc, List.getElem?_append_right (by simp)]
      simp
end
end Go.Proofs.Ytfanghiakbddcaa
