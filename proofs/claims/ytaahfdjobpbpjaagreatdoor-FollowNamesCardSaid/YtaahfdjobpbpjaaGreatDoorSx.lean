/- Sx: stepping through Go code with an explicit list of slots and an explicit list of the call's own blocks. By this project. -/
import Derived.WalkKit
import Derived.WalkLawsBesides
import Derived.WalkSpells
import Derived.Stop.BytesEq
import Derived.Deep.MidRow
import Derived.Below
import Derived.Test.YtaahfdjobpbpjaaGreatDoorProg
set_option linter.unusedVariables false
set_option linter.unusedSectionVars false
set_option linter.unusedSimpArgs false
namespace Go.Proofs.YtaahfdjobpbpjaaGreatDoor
open Go.RowKit Go.Extern.Stop

/-- Slots that are known. -/
abbrev FL := List (Nat × Value)
/-- The call's own blocks: each a number (none: no block) and what lies there. -/
abbrev HL := List (Option Nat × Obj)
structure Fr (a : Act) (n : Nat) (l : FL) : Prop where
  defers : a.defers = []
  size : a.tmps.size = n
  look : ∀ t v, l.lookup t = some v → a.tmps[t]? = some v
structure St (w0 w : World) (L : HL) : Prop where
  below : Below w0.heap.size w0 w
  has : ∀ (i b : Nat) (o : Obj), L[i]? = some (some b, o) → w.heap[b]? = some o ∧ w0.heap.size ≤ b
  one : ∀ (i j b : Nat) (o o' : Obj), L[i]? = some (some b, o) → L[j]? = some (some b, o') → i = j

def evl (l : FL) : Operand → Option Value
  | .tmp t => l.lookup t
  | .const v => some v
  | .global g => some (.pointer (some ⟨g, 0, none⟩))
  | .func f => some (.func (.func f) #[] #[])
theorem Fr.ev {a : Act} {n : Nat} {l : FL} (h : Fr a n l) {x : Operand} {v : Value} (hx : evl l x = some v) : a.eval x = v := by
  cases x with
  | tmp t =>
    have := h.look t v hx
    simp only [Act.eval]
    rw [Array.getD_eq_getD_getElem?, this]; rfl
  | const c => exact Option.some.inj hx
  | global g => exact Option.some.inj hx
  | func f => exact Option.some.inj hx
theorem lookup_cons_ne {t d : Nat} {v : Value} {l : FL} (h : t ≠ d) : List.lookup t ((d, v) :: l) = l.lookup t := by
  have e : (t == d) = false := by simpa using h
  simp only [List.lookup, e]
theorem lookup_cons_eq {t : Nat} {v : Value} {l : FL} : List.lookup t ((t, v) :: l) = some v := by simp only [List.lookup, beq_self_eq_true]
theorem Fr.put {a : Act} {n : Nat} {l : FL} (h : Fr a n l) (d : Nat) (hd : d < n) (v : Value) : Fr (a.put (some d) v) n ((d, v) :: l) := by
  refine ⟨h.defers, by simp [Act.put, h.size], fun t u hu => ?_⟩
  by_cases e : t = d
  · subst e
    rw [lookup_cons_eq] at hu
    obtain rfl := Option.some.inj hu
    simp [Act.put, Array.getElem?_setIfInBounds, h.size, hd]
  · rw [lookup_cons_ne e] at hu
    have := h.look t u hu
    simp only [Act.put, Array.getElem?_setIfInBounds]
    rw [if_neg (fun e' => e e'.symm)]
    exact this
theorem Fr.putNone {a : Act} {n : Nat} {l : FL} (h : Fr a n l) (v : Value) : Fr (a.put none v) n l := h

/-- Every slot of the second list is known in the first. -/
def Sub (l : FL) : FL → Prop
  | [] => True
  | (t, v) :: r => l.lookup t = some v ∧ Sub l r
theorem Sub.look {l : FL} : ∀ {k : FL}, Sub l k → ∀ t v, k.lookup t = some v → l.lookup t = some v
  | [], _, t, v, h => by simp at h
  | (s, u) :: r, ⟨h1, h2⟩, t, v, h => by
    by_cases e : t = s
    · subst e
      rw [lookup_cons_eq] at h
      obtain rfl := Option.some.inj h
      exact h1
    · rw [lookup_cons_ne e] at h
      exact h2.look t v h
theorem Fr.sub {a : Act} {n : Nat} {l k : FL} (h : Fr a n l) (hk : Sub l k) : Fr a n k := ⟨h.defers, h.size, fun t v hv => h.look t v (hk.look t v hv)⟩

theorem lt_of_heap {w : World} {b : Nat} {o : Obj} (h : w.heap[b]? = some o) : b < w.heap.size := (Array.getElem?_eq_some_iff.1 h).1
theorem St.refl (w : World) : St w w [] := ⟨Below.refl _ _, fun _ _ _ h => by simp at h, fun _ _ _ _ _ h => by simp at h⟩
theorem St.le {w0 w : World} {L : HL} (h : St w0 w L) : w0.heap.size ≤ w.heap.size := h.below.size
/-- What a call has made, and what was there before it. -/
theorem St.then {w0 w w' : World} {L N : HL} (h : St w0 w L) (k : St w w' N) : St w0 w' (N ++ L) := by
  have old : ∀ (i b : Nat) (o : Obj), L[i]? = some (some b, o) → b < w.heap.size := fun i b o hi => lt_of_heap (h.has i b o hi).1
  refine ⟨h.below.trans (k.below.mono h.le), fun i b o hi => ?_, fun i j b o o' hi hj => ?_⟩
  · rcases Nat.lt_or_ge i N.length with hl | hl
    · rw [List.getElem?_append_left hl] at hi
      have := k.has i b o hi
      exact ⟨this.1, Nat.le_trans h.le this.2⟩
    · rw [List.getElem?_append_right hl] at hi
      have := h.has _ b o hi
      exact ⟨by rw [k.below.block b (old _ b o hi)]; exact this.1, this.2⟩
  · rcases Nat.lt_or_ge i N.length with hl | hl <;> rcases Nat.lt_or_ge j N.length with hm | hm
    · rw [List.getElem?_append_left hl] at hi
      rw [List.getElem?_append_left hm] at hj
      exact k.one i j b o o' hi hj
    · rw [List.getElem?_append_left hl] at hi
      rw [List.getElem?_append_right hm] at hj
      have := (k.has i b o hi).2
      have := old _ b o' hj
      omega
    · rw [List.getElem?_append_right hl] at hi
      rw [List.getElem?_append_left hm] at hj
      have := (k.has j b o' hj).2
      have := old _ b o hi
      omega
    · rw [List.getElem?_append_right hl] at hi
      rw [List.getElem?_append_right hm] at hj
      have := h.one _ _ b o o' hi hj
      omega
theorem St.alloc {w0 w : World} {L : HL} (h : St w0 w L) (o : Obj) : St w0 (w.alloc o) ((some w.heap.size, o) :: L) := by
  refine h.then (N := [(some w.heap.size, o)]) ⟨(Below.refl _ _).alloc (Nat.le_refl _) o, fun i b o' hi => ?_, fun i j b o' o'' hi hj => ?_⟩
  · cases i with
    | zero =>
      simp at hi
      obtain ⟨rfl, rfl⟩ := hi
      refine ⟨?_, Nat.le_refl _⟩
      show (w.heap.push o)[w.heap.size]? = _
      simp
    | succ i => simp at hi
  · cases i <;> cases j <;> simp at hi hj ⊢
/-- Fewer blocks told. -/
theorem St.tail {w0 w : World} {L N : HL} (h : St w0 w (N ++ L)) : St w0 w L := by
  refine ⟨h.below, fun i b o hi => h.has (N.length + i) b o ?_, fun i j b o o' hi hj => ?_⟩
  · rw [List.getElem?_append_right (by omega)]; simpa using hi
  · have := h.one (N.length + i) (N.length + j) b o o' (by rw [List.getElem?_append_right (by omega)]; simpa using hi) (by rw [List.getElem?_append_right (by omega)]; simpa using hj)
    omega
/-- A choice of the blocks told: each at another place than all others. -/
theorem St.pick {w0 w : World} {L : HL} (h : St w0 w L) (is : List Nat) (K : HL) (hK : is.map (fun i => L[i]?) = K.map some) (hn : is.Nodup) : St w0 w K := by
  have key : ∀ (i b : Nat) (o : Obj), K[i]? = some (some b, o) → ∃ j, is[i]? = some j ∧ L[j]? = some (some b, o) := fun i b o hi => by
    have h1 : (K.map some)[i]? = some (some (some b, o)) := by rw [List.getElem?_map, hi]; rfl
    rw [← hK, List.getElem?_map] at h1
    cases hj : is[i]? with
    | none => rw [hj] at h1; simp at h1
    | some j => rw [hj] at h1; exact ⟨j, rfl, by simpa using h1⟩
  refine ⟨h.below, fun i b o hi => ?_, fun i j b o o' hi hj => ?_⟩
  · obtain ⟨m, _, hm⟩ := key i b o hi
    exact h.has m b o hm
  · obtain ⟨m, e1, hm⟩ := key i b o hi
    obtain ⟨k, e2, hk⟩ := key j b o' hj
    have := h.one m k b o o' hm hk
    subst this
    obtain ⟨p, q⟩ := List.getElem?_eq_some_iff.1 e1
    obtain ⟨p', q'⟩ := List.getElem?_eq_some_iff.1 e2
    exact (List.getElem_inj hn).1 (q.trans q'.symm)
/-- One block turned. -/
theorem St.upd {w0 w w' : World} {L : HL} (h : St w0 w L) (i b : Nat) (o o' : Obj) (hi : L[i]? = some (some b, o)) (hos : w'.os = w.os) (ht : w'.tape = w.tape) (hout : w'.output = w.output) (hs : w.heap.size ≤ w'.heap.size)
    (hb : w'.heap[b]? = some o') (hne : ∀ k, k ≠ b → k < w.heap.size → w'.heap[k]? = w.heap[k]?) : St w0 w' (L.set i (some b, o')) := by
  have hib := h.has i b o hi
  have hil : i < L.length := (List.getElem?_eq_some_iff.1 hi).1
  refine ⟨h.below.trans ⟨hos, ht, hout, hs, fun k hk => hne k (by omega) (by have := h.le; omega)⟩, fun j c q hj => ?_, fun j k c q q' hj hk => ?_⟩
  · rw [List.getElem?_set] at hj
    by_cases e : i = j
    · rw [if_pos e, if_pos hil] at hj
      simp at hj
      obtain ⟨rfl, rfl⟩ := hj
      exact ⟨hb, hib.2⟩
    · rw [if_neg e] at hj
      have hjc := h.has j c q hj
      have : c ≠ b := fun e' => e (h.one i j b o q hi (e' ▸ hj))
      exact ⟨by rw [hne c this (lt_of_heap hjc.1)]; exact hjc.1, hjc.2⟩
  · have tell : ∀ (m : Nat) (q : Obj), (L.set i (some b, o'))[m]? = some (some c, q) → ∃ q', L[m]? = some (some c, q') := fun m q hm => by
      rw [List.getElem?_set] at hm
      by_cases e : i = m
      · rw [if_pos e, if_pos hil] at hm
        simp at hm
        obtain ⟨rfl, rfl⟩ := hm
        exact ⟨o, e ▸ hi⟩
      · rw [if_neg e] at hm
        exact ⟨q, hm⟩
    obtain ⟨p, hp⟩ := tell j q hj
    obtain ⟨p', hp'⟩ := tell k q' hk
    exact h.one j k c p p' hp hp'
/-- One block replaced by a new one (the old one is forgotten). -/
theorem St.swap {w0 w w' : World} {L : HL} (h : St w0 w L) (i : Nat) (r : Option Nat) (o o' : Obj) (hi : L[i]? = some (r, o)) (b' : Nat) (k : St w w' [(some b', o')]) : St w0 w' (L.set i (some b', o')) := by
  have hh := h.then k
  have hil : i < L.length := (List.getElem?_eq_some_iff.1 hi).1
  have hn0 := k.has 0 b' o' rfl
  refine ⟨hh.below, fun j c q hj => ?_, fun j m c q q' hj hm => ?_⟩
  · rw [List.getElem?_set] at hj
    by_cases e : i = j
    · rw [if_pos e, if_pos hil] at hj
      simp at hj
      obtain ⟨rfl, rfl⟩ := hj
      exact hh.has 0 b' o' rfl
    · rw [if_neg e] at hj
      exact hh.has (j + 1) c q (by simpa using hj)
  · rw [List.getElem?_set] at hj hm
    have lt : ∀ (m : Nat) (q : Obj), L[m]? = some (some c, q) → c < w.heap.size := fun m q hm => lt_of_heap (h.has m c q hm).1
    by_cases e : i = j <;> by_cases e' : i = m
    · omega
    · rw [if_pos e, if_pos hil] at hj
      rw [if_neg e'] at hm
      simp at hj
      have := lt m q' hm
      omega
    · rw [if_neg e] at hj
      rw [if_pos e', if_pos hil] at hm
      simp at hm
      have := lt j q hj
      omega
    · rw [if_neg e] at hj
      rw [if_neg e'] at hm
      exact h.one j m c q q' hj hm
theorem St.drew {w0 w : World} {L : HL} (h : St w0 w L) : St w0 w.drew L := ⟨h.below.drew, h.has, h.one⟩
theorem St.same {w0 w w' : World} {L : HL} (h : St w0 w L) (hh : w'.heap = w.heap) (hos : w'.os = w.os) (ht : w'.tape = w.tape) (hout : w'.output = w.output) : St w0 w' L :=
  ⟨⟨hos.trans h.below.os, ht.trans h.below.tape, hout.trans h.below.output, by rw [hh]; exact h.below.size, fun k hk => by rw [hh]; exact h.below.block k hk⟩, fun i b o hi => by rw [hh]; exact h.has i b o hi, h.one⟩
end Go.Proofs.YtaahfdjobpbpjaaGreatDoor
