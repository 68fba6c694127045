/- Sl: slices: read, cut, built, appended to. By this project. -/
import Derived.Test.YtaahfdjobpbpjaaGreatDoorTy
import Derived.Deep.AppendSrc
import Derived.Deep.DeepAppendWide
set_option linter.unusedVariables false
set_option linter.unusedSectionVars false
set_option linter.unusedSimpArgs false
namespace Go.Proofs.YtaahfdjobpbpjaaGreatDoor
open Go.RowKit Go.Extern.Stop

section
variable {P : Program} {n : Nat} {w0 : World} {l : FL} {L : HL} {Q : GQ} {ops : Array Oper} {rest : List Oper}

/-- In every world so told a slice that begins at A has these cells. -/
def RS (w0 : World) (L : HL) (A : Option Addr) (cs : List Value) : Prop := ∀ w, St w0 w L → ∀ (j : Nat) (v : Value), cs[j]? = some v → ∃ ad, A = some ad ∧ w.cell? (ad.add j) = some v
theorem rs_nil {A : Option Addr} : RS w0 L A [] := fun _ _ j v h => by simp at h
theorem rs_lies {A : Option Addr} {cs : List Value} (h : Lies w0 L A cs) : RS w0 L A cs := fun w hs j v hv => by
  obtain ⟨ad, h1, h2⟩ := h w hs
  exact ⟨ad, h1, h2 j v hv⟩
theorem rs_loc {b o i k : Nat} {C cs : List Value} {E : TypeId} {fz : Nat × Nat} [hL : AtL b L (.cells C.toArray E fz) i] (hc : (C.drop o).take k = cs) : RS w0 L (some ⟨b, o, none⟩) cs := hc ▸ rs_lies (lies_loc hL.h)
/-- What lay there at the beginning. -/
def RW (w : World) (A : Option Addr) (cs : List Value) : Prop := ∀ (j : Nat) (v : Value), cs[j]? = some v → ∃ ad, A = some ad ∧ w.cell? (ad.add j) = some v
theorem rs_ext {A : Option Addr} {cs : List Value} (h : RW w0 A cs) : RS w0 L A cs := fun w hs j v hv => by
  obtain ⟨ad, h1, h2⟩ := h j v hv
  exact ⟨ad, h1, by rw [hs.below.cell (World.block_lt_of_cell? w0 _ h2)]; exact h2⟩
theorem rs_rw {A : Option Addr} {cs : List Value} (h : RS w0 L A cs) {w : World} (hs : St w0 w L) : RW w A cs := h w hs
theorem rs_more {A : Option Addr} {cs : List Value} {N : HL} (h : RS w0 L A cs) : RS w0 (N ++ L) A cs := fun w hs => h w hs.tail
theorem rs_mono {A : Option Addr} {cs : List Value} {K : HL} (h : RS w0 L A cs) (hk : ∀ w, St w0 w K → St w0 w L) : RS w0 K A cs := fun w hs => h w (hk w hs)
theorem rw_kept {w w' : World} {A : Option Addr} {cs : List Value} (h : RW w A cs) (hb : Below w.heap.size w w') : RW w' A cs := fun j v hv => by
  obtain ⟨ad, h1, h2⟩ := h j v hv
  exact ⟨ad, h1, by rw [hb.cell (World.block_lt_of_cell? w _ h2)]; exact h2⟩
theorem add_add (ad : Addr) (i j : Nat) : (ad.add i).add j = ad.add (i + j) := by
  unfold Addr.add
  by_cases e1 : i = 0 <;> by_cases e2 : j = 0 <;> simp [e1, e2, Nat.add_assoc]
theorem rs_drop {A : Option Addr} {cs : List Value} (h : RS w0 L A cs) (i : Nat) : RS w0 L (A.map (·.add i)) (cs.drop i) := fun w hs j v hv => by
  obtain ⟨ad, h1, h2⟩ := h w hs (i + j) v (by simpa using hv)
  exact ⟨ad.add i, by rw [h1]; rfl, by rw [add_add]; exact h2⟩
theorem rs_take {A : Option Addr} {cs : List Value} (h : RS w0 L A cs) (k : Nat) : RS w0 L A (cs.take k) := fun w hs j v hv => by
  rw [List.getElem?_take] at hv
  split at hv
  · exact h w hs j v hv
  · simp at hv
theorem rw_drop {w : World} {A : Option Addr} {cs : List Value} (h : RW w A cs) (i : Nat) : RW w (A.map (·.add i)) (cs.drop i) := fun j v hv => by
  obtain ⟨ad, h1, h2⟩ := h (i + j) v (by simpa using hv)
  exact ⟨ad.add i, by rw [h1]; rfl, by rw [add_add]; exact h2⟩
theorem rw_take {w : World} {A : Option Addr} {cs : List Value} (h : RW w A cs) (k : Nat) : RW w A (cs.take k) := fun j v hv => by
  rw [List.getElem?_take] at hv
  split at hv
  · exact h j v hv
  · simp at hv
theorem rs_some {A : Option Addr} {cs : List Value} {w : World} (h : RS w0 L A cs) (hs : St w0 w L) {j : Nat} (hj : j < cs.length) : A ≠ none := fun e => by
  obtain ⟨ad, h1, _⟩ := h w hs j _ (List.getElem?_eq_getElem hj)
  rw [e] at h1; simp at h1
/-- One element. -/
theorem rs_at {A : Option Addr} {cs : List Value} {v : Value} {j : Nat} (h : RS w0 L A cs) (hv : cs[j]? = some v) : Lies w0 L (A.map (·.add j)) [v] := fun w hs => by
  obtain ⟨ad, h1, h2⟩ := h w hs j v hv
  refine ⟨ad.add j, by rw [h1]; rfl, fun i u hu => ?_⟩
  cases i with
  | zero =>
    simp at hu
    subst hu
    rw [add_add]
    exact h2
  | succ i => simp at hu
/-- Element j, of size s, of a slice of such. -/
theorem rs_atn {A : Option Addr} {cs : List Value} {j s : Nat} (h : RS w0 L A cs) (hs : 0 < s) (hj : j * s + s ≤ cs.length) : Lies w0 L (A.map (·.add (j * s))) ((cs.drop (j * s)).take s) := fun w hw => by
  obtain ⟨ad, h1, _⟩ := h w hw (j * s) _ (List.getElem?_eq_getElem (by omega))
  refine ⟨ad.add (j * s), by rw [h1]; rfl, fun i u hu => ?_⟩
  rw [List.getElem?_take] at hu
  split at hu
  · obtain ⟨ad', h3, h4⟩ := h w hw (j * s + i) u (by simpa using hu)
    rw [h1] at h3
    obtain rfl := Option.some.inj h3
    rw [add_add]
    exact h4
  · simp at hu
/-- '&x[i]', the address of element i. -/
theorem ov_ia' {t e : TypeId} {x y : Operand} {A : Option Addr} {m c s : Nat} {k : IntKind} {i : Int} {cs : List Value} {dst : Option Tmp} {ty : TypeId} {ps : String} {af : Array Edge} {gd : Option (Nat × Bool)} (hx : evl l x = some (.slice A m c)) (hy : evl l y = some (.int k i))
    [ht : SliceT P t e] [hz : SizeT P e s] (hr : RS w0 L A cs) (hl : cs.length = m * s) (hs : 0 < s) (h0 : 0 ≤ i) (h1 : i < m) : OV P w0 L l ⟨dst, .indexAddr t x y, ty, ps, af, gd⟩ (.pointer (A.map (·.add (i.toNat * s)))) := by
  unfold OV
  intro a n w hf hw
  have hA : A ≠ none := rs_some hr hw (j := i.toNat * s) (by
    rw [hl]
    have : i.toNat < m := by omega
    exact Nat.mul_lt_mul_of_pos_right this hs)
  have := ov_ia (P := P) (w0 := w0) (L := L) (l := l) (dst := dst) (ty := ty) (ps := ps) (af := af) (gd := gd) hx hy (t := t) h0 h1 hA
  unfold OV at this
  exact this a n w hf hw

/-! ### What append is given -/
theorem firstCells_rw {w : World} {A : Option Addr} {cs : List Value} (h : RW w A cs) {m s c : Nat} (hl : cs.length = m * s) : (Builtin.firstCells s m (.slice A m c)).run P w = .ok cs.toArray w := by
  cases A with
  | some ad =>
    refine run_firstCells_some w s m ad m c cs hl fun j v hv => ?_
    obtain ⟨ad', h1, h2⟩ := h j v hv
    obtain rfl := Option.some.inj h1
    exact h2
  | none =>
    have : cs = [] := by
      cases cs with
      | nil => rfl
      | cons v r => obtain ⟨ad, h1, _⟩ := h 0 v rfl; simp at h1
    subst this
    exact run_firstCells_none w s m m c
theorem src_rw {w : World} {B : Option Addr} {cs : List Value} {t e : TypeId} {k s c : Nat} (ht : sliceT P t = some e) (h : RW w B cs) (hs : 0 < s) (hl : cs.length = k * s) (h1 : cs.all (·.oneCell') = true) : Src P s t (.slice B k c) k cs w :=
  ⟨.inl ⟨e, und_slice ht⟩, fun _ => rfl, firstCells_rw h hl, firstCells_rw (w := w.drew) h hl, hl, fun u hu => (List.all_eq_true.1 h1) u hu⟩
/-- An append that finds no room: a new row. -/
theorem ef_appG {K : FL → HL → Prop} {tS tX e e' : TypeId} {s x : Operand} {A B : Option Addr} {m c k c2 sz bs d : Nat} {z : Value} {old new : List Value} {ty : TypeId} {ps : String} {af : Array Edge} {gd : Option (Nat × Bool)} (hlt : Nat.ble (d + 1) n = true)
    (hs : evl l s = some (.slice A m c)) (hx : evl l x = some (.slice B k c2)) [tS' : SliceT P tS e] [tX' : SliceT P tX e'] [hz : SizeT P e sz] [hb : BytesT P e bs] [hZ : ZeroT P e z] {zc : List Value} [hzc : CellsOf z zc] (hzl : zc.length = sz)
    (hold : RS w0 L A old) (hol : old.length = m * sz) (hnew : RS w0 L B new) (hnl : new.length = k * sz) (h1 : new.all (·.oneCell') = true) (hsz : 0 < sz) (hg : c < m + k) (h63 : m + k ≤ 9223372036854775807) (hfit : (m + k + (m + k) / 4 + 192) * bs ≤ 281474976710656)
    (kk : ∀ b sp c', m + k ≤ c' → sp.length = (c' - (m + k)) * sz → K ((d, .slice (some ⟨b, 0, none⟩) (m + k) c') :: l) ((some b, .cells (old ++ new ++ sp).toArray e (0, 0)) :: L)) :
    EF P n w0 l L ⟨some d, .call { callee := .builtin .append, args := #[s, x], argTypes := #[tS, tX] }, ty, ps, af, gd⟩ K := by
  unfold EF
  intro a w hf hs'
  have hi := hz.h
  unfold sizeT at hi
  cases hinfo : P.info? e with
  | none => rw [hinfo] at hi; simp at hi
  | some i =>
    rw [hinfo] at hi
    simp only [Option.map_some, Option.some.injEq] at hi
    have hb' := hb.h
    simp only [bytesT, hinfo, Option.map_some, Option.some.injEq] at hb'
    have hZ' := hZ.h
    simp only [zeroT, hinfo, Option.bind_some] at hZ'
    subst hb' hi
    have hrun := run_append_grow_src (P := P) w tS tX ty e i z (und_slice tS'.h) hinfo hZ' A m c old (firstCells_rw (w := w.drew) (hold w hs') hol) (.slice B k c2) k new (src_rw tX'.h (hnew w hs') hsz hnl h1) hg (by omega) (growslice_fits_wide hg hfit)
    have hcap : m + k ≤ grownCap w (m + k) c e := by unfold grownCap Question.cut; exact Nat.le_add_right _ _
    refine ⟨_, (w.drew.alloc (.cells ((old ++ new).toArray ++ Builtin.zeroCells z.cells (grownCap w (m + k) c e - (m + k))) e)), _, ?_, .inl rfl, _, _, fun a' hf' => hf'.put d (Nat.le_of_ble_eq_true hlt) _, ?_, kk w.heap.size (Builtin.zeroCells z.cells (grownCap w (m + k) c e - (m + k))).toList (grownCap w (m + k) c e) hcap ?_⟩
    · simp [execOp, resolve, invoke, builtin, hf.ev hs, hf.ev hx, hrun]
    · have := (hs'.drew).alloc (.cells ((old ++ new).toArray ++ Builtin.zeroCells z.cells (grownCap w (m + k) c e - (m + k))) e)
      have e1 : (old ++ new).toArray ++ Builtin.zeroCells z.cells (grownCap w (m + k) c e - (m + k)) = (old ++ new ++ (Builtin.zeroCells z.cells (grownCap w (m + k) c e - (m + k))).toList).toArray := by
        apply Array.ext'; simp
      rw [e1] at this ⊢
      exact this
    · simp [Builtin.zeroCells, hzc.h, hzl]
/-- An append that finds room in a block of the call's own. -/
theorem ef_appR {K : FL → HL → Prop} {tS tX e e' : TypeId} {s x : Operand} {B : Option Addr} {m c k c2 sz d b o i : Nat} {C C' new : List Value} {E : TypeId} {L' : HL} {ty : TypeId} {ps : String} {af : Array Edge} {gd : Option (Nat × Bool)} (hlt : Nat.ble (d + 1) n = true)
    (hs : evl l s = some (.slice (some ⟨b, o, none⟩) m c)) (hx : evl l x = some (.slice B k c2)) [tS' : SliceT P tS e] [tX' : SliceT P tX e'] [hz : SizeT P e sz] [hL : AtL b L (.cells C.toArray E (0, 0)) i]
    (hnew : RS w0 L B new) (hnl : new.length = k * sz) (h1 : new.all (·.oneCell') = true) (hsz : 0 < sz) (hg : m + k ≤ c) (hfit : o + (m + k) * sz ≤ C.length) (hC : overC C (o + m * sz) new = C') [hS : SetL L i (some b, .cells C'.toArray E (0, 0)) L']
    (kk : K ((d, .slice (some ⟨b, o, none⟩) (m + k) c) :: l) L') :
    EF P n w0 l L ⟨some d, .call { callee := .builtin .append, args := #[s, x], argTypes := #[tS, tX] }, ty, ps, af, gd⟩ K := by
  unfold EF
  intro a w hf hs'
  have hi := hz.h
  unfold sizeT at hi
  cases hinfo : P.info? e with
  | none => rw [hinfo] at hi; simp at hi
  | some j =>
    rw [hinfo] at hi
    simp only [Option.map_some, Option.some.injEq] at hi
    subst hi
    have hblk := (hs'.has i b _ hL.h).1
    have hle : o + m * j.size + new.length ≤ C.length := by
      have : (m + k) * j.size = m * j.size + k * j.size := Nat.add_mul ..
      omega
    have hrun := run_append_room_src (P := P) w tS tX ty e j (und_slice tS'.h) hinfo b o m c (.slice B k c2) k new (src_rw tX'.h (hnew w hs') hsz hnl h1) hg
      (fun q hq => by have : o + m * j.size + q < C.length := by omega
                      simp [World.cell?, hblk, this]) (fun q hq => by simp [World.frozen?, hblk])
    refine ⟨_, w.setCells b (o + m * j.size) new, _, ?_, .inl rfl, _, _, fun a' hf' => hf'.put d (Nat.le_of_ble_eq_true hlt) _, ?_, kk⟩
    · simp [execOp, resolve, invoke, builtin, hf.ev hs, hf.ev hx, hrun]
    · rw [← hS.h, ← hC]
      exact hs'.over hL.h hle
/-- Where a row of the call's own begins: nowhere (nil), or at the head of a block. -/
def rowA (r : Option Nat) : Option Addr := r.map fun b => ⟨b, 0, none⟩
/-- A row of the call's own: m elements, room for c; what lies behind them. -/
structure RowOk (r : Option Nat) (m c s : Nat) (sp : List Value) : Prop where
  nil : r = none → m = 0 ∧ c = 0
  le : m ≤ c
  len : sp.length = (c - m) * s
theorem rs_row {i : Nat} {r : Option Nat} {xs sp : List Value} {E : TypeId} {fz : Nat × Nat} {m c s : Nat} (hL : L[i]? = some (r, .cells (xs ++ sp).toArray E fz)) (hr : RowOk r m c s sp) (hl : xs.length = m * s) : RS w0 L (rowA r) xs := fun w hs j v hv => by
  cases r with
  | none =>
    have := (hr.nil rfl).1
    subst this
    have : xs = [] := by simpa using hl
    subst this
    simp at hv
  | some b =>
    refine ⟨_, rfl, ?_⟩
    have hblk := (hs.has i b _ hL).1
    have hj := (List.getElem?_eq_some_iff.1 hv).1
    rw [Addr.add_mid, Nat.zero_add]
    simp only [World.cell?, hblk]
    simp [List.getElem?_append_left hj, hv]
/-- An append to a row of the call's own, which is the i-th told: of at least one element. -/
theorem ef_appO {K : FL → HL → Prop} {tS tX e e' : TypeId} {s x : Operand} {B : Option Addr} {r : Option Nat} {m c k c2 sz bs d : Nat} {z : Value} (i : Nat) {xs sp new : List Value} {ty : TypeId} {ps : String} {af : Array Edge} {gd : Option (Nat × Bool)} (hlt : Nat.ble (d + 1) n = true)
    (hs : evl l s = some (.slice (rowA r) m c)) (hx : evl l x = some (.slice B k c2)) [tS' : SliceT P tS e] [tX' : SliceT P tX e'] [hz : SizeT P e sz] [hb : BytesT P e bs] [hZ : ZeroT P e z] {zc : List Value} [hzc : CellsOf z zc] (hzl : zc.length = sz)
    (hL : L[i]? = some (r, .cells (xs ++ sp).toArray e (0, 0))) (hrow : RowOk r m c sz sp) (hxl : xs.length = m * sz)
    (hnew : RS w0 L B new) (hnl : new.length = k * sz) (h1 : new.all (·.oneCell') = true) (hsz : 0 < sz) (hk : 0 < k) (h63 : m + k ≤ 9223372036854775807) (hfit : (m + k + (m + k) / 4 + 192) * bs ≤ 281474976710656)
    (kk : ∀ b sp' c', m + k ≤ c' → sp'.length = (c' - (m + k)) * sz → K ((d, .slice (some ⟨b, 0, none⟩) (m + k) c') :: l) (L.set i (some b, .cells (xs ++ new ++ sp').toArray e (0, 0)))) :
    EF P n w0 l L ⟨some d, .call { callee := .builtin .append, args := #[s, x], argTypes := #[tS, tX] }, ty, ps, af, gd⟩ K := by
  unfold EF
  intro a w hf hs'
  have hi := hz.h
  unfold sizeT at hi
  cases hinfo : P.info? e with
  | none => rw [hinfo] at hi; simp at hi
  | some j =>
    rw [hinfo] at hi
    simp only [Option.map_some, Option.some.injEq] at hi
    have hb' := hb.h
    simp only [bytesT, hinfo, Option.map_some, Option.some.injEq] at hb'
    have hZ' := hZ.h
    simp only [zeroT, hinfo, Option.bind_some] at hZ'
    subst hb' hi
    have hsrc := src_rw (c := c2) tX'.h (hnew w hs') hsz hnl h1
    obtain ⟨hr, hmc, hspl⟩ := hrow
    have hrw : RW w (rowA r) xs := rs_row (w0 := w0) hL ⟨hr, hmc, hspl⟩ hxl w hs'
    by_cases hg : m + k ≤ c
    · cases r with
      | none => obtain ⟨rfl, rfl⟩ := hr rfl; omega
      | some b =>
        have hblk := (hs'.has i b _ hL).1
        have hcl : (xs ++ sp).length = c * j.size := by
          rw [List.length_append, hxl, hspl, ← Nat.add_mul]; congr 1; omega
        have hle : 0 + m * j.size + new.length ≤ (xs ++ sp).length := by
          rw [hcl, hnl, Nat.zero_add, ← Nat.add_mul]; exact Nat.mul_le_mul_right _ hg
        have hrun := run_append_room_src (P := P) w tS tX ty e j (und_slice tS'.h) hinfo b 0 m c (.slice B k c2) k new hsrc hg
          (fun q hq => by have : 0 + m * j.size + q < (xs ++ sp).length := by omega
                          simp only [World.cell?, hblk]
                          simp; simpa using this) (fun q hq => by simp [World.frozen?, hblk])
        refine ⟨_, w.setCells b (0 + m * j.size) new, _, ?_, .inl rfl, _, _, fun a' hf' => hf'.put d (Nat.le_of_ble_eq_true hlt) _, ?_, kk b (sp.drop new.length) c hg (by
          rw [List.length_drop, hspl, hnl, ← Nat.sub_mul]; congr 1; omega)⟩
        · have e0 := hf.ev hs
          simp only [rowA, Option.map_some] at e0
          simp [execOp, resolve, invoke, builtin, e0, hf.ev hx, hrun]
        · have := hs'.over hL hle
          have e1 : (xs ++ sp).take (0 + m * j.size) ++ new ++ (xs ++ sp).drop (0 + m * j.size + new.length) = xs ++ new ++ sp.drop new.length := by
            rw [Nat.zero_add, ← hxl, List.take_left', List.drop_append, List.drop_of_length_le (by omega)]
            · simp
            · rfl
          rw [e1] at this
          simpa using this
    · have hrun := run_append_grow_src (P := P) w tS tX ty e j z (und_slice tS'.h) hinfo hZ' (rowA r) m c xs (firstCells_rw (w := w.drew) hrw hxl) (.slice B k c2) k new hsrc (by omega) (by omega) (growslice_fits_wide (by omega) hfit)
      have hcap : m + k ≤ grownCap w (m + k) c e := by unfold grownCap Question.cut; exact Nat.le_add_right _ _
      refine ⟨_, (w.drew.alloc (.cells ((xs ++ new).toArray ++ Builtin.zeroCells z.cells (grownCap w (m + k) c e - (m + k))) e)), _, ?_, .inl rfl, _, _, fun a' hf' => hf'.put d (Nat.le_of_ble_eq_true hlt) _, ?_, kk w.heap.size (Builtin.zeroCells z.cells (grownCap w (m + k) c e - (m + k))).toList (grownCap w (m + k) c e) hcap ?_⟩
      · have e0 := hf.ev hs
        simp [execOp, resolve, invoke, builtin, e0, hf.ev hx, hrun]
      · have e1 : (xs ++ new).toArray ++ Builtin.zeroCells z.cells (grownCap w (m + k) c e - (m + k)) = (xs ++ new ++ (Builtin.zeroCells z.cells (grownCap w (m + k) c e - (m + k))).toList).toArray := by
          apply Array.ext'; simp
        rw [e1]
        exact hs'.drew.swap i r _ _ hL w.heap.size ((St.refl w.drew).alloc _)
      · simp [Builtin.zeroCells, hzc.h, hzl]

/-! ### Slices cut -/
/-- Where a cut begins: a slice without room keeps its place. -/
def cutA (A : Option Addr) (c i s : Nat) : Option Addr := if c = i then A else A.map (·.add (i * s))
theorem rs_cut {A : Option Addr} {cs : List Value} {m c i s : Nat} (h : RS w0 L A cs) (hl : cs.length = m * s) (hm : m ≤ c) : RS w0 L (cutA A c i s) (cs.drop (i * s)) := by
  unfold cutA
  split
  · rename_i e
    subst e
    rw [List.drop_of_length_le (by rw [hl]; exact Nat.mul_le_mul_right _ hm)]
    exact rs_nil
  · exact rs_drop h _
theorem rw_cut {w : World} {A : Option Addr} {cs : List Value} {m c i s : Nat} (h : RW w A cs) (hl : cs.length = m * s) (hm : m ≤ c) : RW w (cutA A c i s) (cs.drop (i * s)) := by
  unfold cutA
  split
  · rename_i e
    subst e
    rw [List.drop_of_length_le (by rw [hl]; exact Nat.mul_le_mul_right _ hm)]
    intro j v hv; simp at hv
  · exact rw_drop h _
theorem run_bound {k : IntKind} {v : Int} {i y : Nat} {code : BoundsCode} (hv : v = (i : Nat)) (h : i ≤ y) (w : World) : (Instr.sliceBound (.int k v) y code).run P w = .ok i w := by
  subst hv
  simp [Instr.sliceBound, asIntOf, show (i : Int) ≤ (y : Int) by omega]
theorem sliceAt_slice {t e : TypeId} (ht : sliceT P t = some e) (x : Value) (lo hi mx : Option Value) (w : World) : (Instr.sliceAt t x lo hi mx).run P w = (Instr.slice t x lo hi mx).run P w := by
  unfold Instr.sliceAt
  rw [Sem.run_bind, run_underlying (und_slice ht) w]
  rfl
theorem ov_slo {t e : TypeId} {x lo : Operand} {A : Option Addr} {m c i s : Nat} {k : IntKind} {v : Int} {dst : Option Tmp} {ty : TypeId} {ps : String} {af : Array Edge} {gd : Option (Nat × Bool)} (hx : evl l x = some (.slice A m c)) (hlo : evl l lo = some (.int k v)) [ht : SliceT P t e] [hz : SizeT P e s]
    (hv : v = (i : Nat)) (hi : i ≤ m) : OV P w0 L l ⟨dst, .slice t x (some lo) none none, ty, ps, af, gd⟩ (.slice (cutA A c i s) (m - i) (c - i)) := by
  unfold OV
  intro a n w hf hw
  simp only [execOp, Option.map_some, Option.map_none, hf.ev hx, hf.ev hlo, Sem.run_bind, sliceAt_slice ht.h]
  simp [Instr.slice, run_underlying (und_slice ht.h) w, Instr.sliceBounds, run_bound hv hi, run_sizeOf hz.h w, cutA]
theorem ov_shi {t e : TypeId} {x hi : Operand} {A : Option Addr} {m c j s : Nat} {k : IntKind} {v : Int} {dst : Option Tmp} {ty : TypeId} {ps : String} {af : Array Edge} {gd : Option (Nat × Bool)} (hx : evl l x = some (.slice A m c)) (hhi : evl l hi = some (.int k v)) [ht : SliceT P t e] [hz : SizeT P e s]
    (hv : v = (j : Nat)) (hj : j ≤ c) : OV P w0 L l ⟨dst, .slice t x none (some hi) none, ty, ps, af, gd⟩ (.slice A j c) := by
  unfold OV
  intro a n w hf hw
  simp only [execOp, Option.map_some, Option.map_none, hf.ev hx, hf.ev hhi, Sem.run_bind, sliceAt_slice ht.h]
  have e0 : ∀ ad : Addr, ad.add 0 = ad := fun _ => rfl
  simp [Instr.slice, run_underlying (und_slice ht.h) w, Instr.sliceBounds, run_bound hv hj, run_sizeOf hz.h w, e0]
theorem ov_slh {t e : TypeId} {x lo hi : Operand} {A : Option Addr} {m c i j s : Nat} {k k' : IntKind} {u v : Int} {dst : Option Tmp} {ty : TypeId} {ps : String} {af : Array Edge} {gd : Option (Nat × Bool)} (hx : evl l x = some (.slice A m c)) (hlo : evl l lo = some (.int k u)) (hhi : evl l hi = some (.int k' v))
    [ht : SliceT P t e] [hz : SizeT P e s] (hu : u = (i : Nat)) (hv : v = (j : Nat)) (hij : i ≤ j) (hj : j ≤ c) : OV P w0 L l ⟨dst, .slice t x (some lo) (some hi) none, ty, ps, af, gd⟩ (.slice (cutA A c i s) (j - i) (c - i)) := by
  unfold OV
  intro a n w hf hw
  simp only [execOp, Option.map_some, Option.map_none, hf.ev hx, hf.ev hhi, hf.ev hlo, Sem.run_bind, sliceAt_slice ht.h]
  simp [Instr.slice, run_underlying (und_slice ht.h) w, Instr.sliceBounds, run_bound hv hj, run_bound hu hij, run_sizeOf hz.h w, cutA]
theorem ov_sl3 {t e : TypeId} {x lo hi mx : Operand} {A : Option Addr} {m c i j q s : Nat} {k k' k'' : IntKind} {u v z : Int} {dst : Option Tmp} {ty : TypeId} {ps : String} {af : Array Edge} {gd : Option (Nat × Bool)} (hx : evl l x = some (.slice A m c)) (hlo : evl l lo = some (.int k u)) (hhi : evl l hi = some (.int k' v)) (hmx : evl l mx = some (.int k'' z))
    [ht : SliceT P t e] [hz : SizeT P e s] (hu : u = (i : Nat)) (hv : v = (j : Nat)) (hq : z = (q : Nat)) (hij : i ≤ j) (hj : j ≤ q) (hc : q ≤ c) : OV P w0 L l ⟨dst, .slice t x (some lo) (some hi) (some mx), ty, ps, af, gd⟩ (.slice (cutA A q i s) (j - i) (q - i)) := by
  unfold OV
  intro a n w hf hw
  simp only [execOp, Option.map_some, hf.ev hx, hf.ev hhi, hf.ev hlo, hf.ev hmx, Sem.run_bind, sliceAt_slice ht.h]
  simp [Instr.slice, run_underlying (und_slice ht.h) w, Instr.sliceBounds, run_bound hv hj, run_bound hu hij, run_bound hq hc, run_sizeOf hz.h w, cutA]
/-- An array of the call's own as a slice. -/
theorem ov_sarr {t e : TypeId} {x : Operand} {b o k s : Nat} {dst : Option Tmp} {ty : TypeId} {ps : String} {af : Array Edge} {gd : Option (Nat × Bool)} (hx : evl l x = some (.pointer (some ⟨b, o, none⟩))) [ht : ArrayT P t k e] [hz : SizeT P e s] :
    OV P w0 L l ⟨dst, .slice t x none none none, ty, ps, af, gd⟩ (.slice (some ⟨b, o, none⟩) k k) := by
  unfold OV
  intro a n w hf hw
  have e0 : ∀ ad : Addr, ad.add 0 = ad := fun _ => rfl
  simp [execOp, hf.ev hx, Instr.sliceAt, run_underlying (und_array ht.h) w, Instr.sureAddr, Instr.sliceBounds, run_sizeOf hz.h w, e0]
/-- '== nil' of a slice. -/
theorem ov_eqnil {t e t' : TypeId} {x y : Operand} {A : Option Addr} {m c : Nat} {dst : Option Tmp} {ty : TypeId} {ps : String} {af : Array Edge} {gd : Option (Nat × Bool)} (hx : evl l x = some (.slice A m c)) (hy : evl l y = some (.slice none 0 0)) [ht : SliceT P t e] {b : Bool} (hb : A.isNone = b) :
    OV P w0 L l ⟨dst, .binOp .eql t x y t', ty, ps, af, gd⟩ (.bool b) := by
  unfold OV
  intro a n w hf hw
  subst hb
  simp only [execOp, hf.ev hx, hf.ev hy]
  simp [eqGuard, binOp, run_equal_slice_nil w t e A m c (und_slice ht.h)]

/-! ### Slices built -/
theorem zeroFill {z : Value} {zc : List Value} (h : CellsOf z zc) (k : Nat) (hs : zc.length = 1) : ((Array.range k).map (z.cells[· % z.cells.size]!)) = (List.replicate k (zc.headD undef)).toArray := by
  have hz := h.h
  match zc, hs with
  | [v], _ =>
    rw [hz]
    apply Array.ext
    · simp
    · intro i h1 h2
      simp [Nat.mod_one]
theorem ef_bs {K : FL → HL → Prop} {t e : TypeId} {k d : Nat} {z : Value} {zc : List Value} {xs : List (Nat × Operand)} {qs : List (Nat × List Value)} {C : List Value} {ty : TypeId} {ps : String} {af : Array Edge} {gd : Option (Nat × Bool)} (hlt : Nat.ble (d + 1) n = true)
    [ht : SliceT P t e] [hz : SizeT P e 1] [hZ : ZeroT P e z] [hzc : CellsOf z zc] (hzl : zc.length = 1) (hk : Nat.ble k 16777216 = true) (hq : Parts l (fun i => some (i * 1, 1)) k xs qs) (hC : putAll (List.replicate k (zc.headD undef)) qs = C)
    (kk : ∀ b, K ((d, .slice (some ⟨b, 0, none⟩) k k) :: l) ((some b, .cells C.toArray e (0, 0)) :: L)) :
    EF P n w0 l L ⟨some d, .buildSlice t k xs.toArray, ty, ps, af, gd⟩ K := by
  unfold EF
  intro a w hf hs
  refine ⟨_, w.alloc (.cells C.toArray e), .slice (some ⟨w.heap.size, 0, none⟩) k k, ?_, .inl rfl, _, _, fun a' hf' => hf'.put d (Nat.le_of_ble_eq_true hlt) _, hs.alloc _, kk w.heap.size⟩
  have hk' := Nat.le_of_ble_eq_true hk
  have hzv : (zeroValue e).run P w = .ok z w := by
    have hZ := hZ.h
    unfold zeroT at hZ
    cases hi : P.info? e with
    | none => rw [hi] at hZ; simp at hZ
    | some i => rw [hi] at hZ; simp only [Option.bind_some] at hZ; simp [zeroValue, typeInfo, hi, hZ]
  have hfill := fill_parts (place := fun i => some (i * 1, 1)) hf (List.replicate k (zc.headD undef)) hq (by simp)
  rw [hC] at hfill
  simp only [execOp, List.map_toArray, Instr.buildSlice, Sem.run_bind, run_underlying (und_slice ht.h) w, Result.andThen_ok, run_sizeOf hz.h w]
  rw [if_neg (by omega)]
  by_cases h0 : k = 0
  · subst h0
    simp only [Nat.zero_mul, if_true, Sem.run_bind, Sem.run_pure, Result.andThen_ok]
    have e1 : ((Array.range 0).map fun x => (#[] : Array Value)[x % (#[] : Array Value).size]!) = (List.replicate 0 (zc.headD undef)).toArray := by simp
    rw [e1, hfill]
    simp [newRow]
  · have h1 : ¬ k * 1 = 0 := by omega
    rw [if_neg h1]
    simp only [Sem.run_bind, hzv, Result.andThen_ok, Sem.run_pure]
    rw [Nat.mul_one, zeroFill hzc k hzl, hfill]
    simp [newRow]
end
end Go.Proofs.YtaahfdjobpbpjaaGreatDoor
