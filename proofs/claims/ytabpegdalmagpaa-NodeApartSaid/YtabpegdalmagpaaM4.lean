/- Part 4 of the proof: Ty, Sl, Go, Sha1, Cs, Sha2. By this project. -/
import Derived.Test.YtabpegdalmagpaaM3
import Derived.Deep.AppendSrc
import Derived.Deep.DeepAppendWide
import Derived.IntWalk
set_option linter.unusedVariables false
set_option linter.unusedSectionVars false
set_option linter.unusedSimpArgs false
set_option maxRecDepth 100000
/- What the tables say of each type. Written by wip/bin/types.py. -/
namespace Go.Proofs.Ytabpegdalmagpaa
instance : IntT Try.prog 3 .i64 := ⟨by kernel_rfl⟩
instance : RowT Try.prog 5 false := ⟨by kernel_rfl⟩
instance : SizeT Try.prog 5 1 := ⟨by kernel_rfl⟩
instance : BytesT Try.prog 5 1 := ⟨by kernel_rfl⟩
instance : IntT Try.prog 5 .u8 := ⟨by kernel_rfl⟩
instance : ZeroT Try.prog 5 (.int .u8 0) := ⟨by kernel_rfl⟩
instance : RowT Try.prog 22 false := ⟨by kernel_rfl⟩
instance : SizeT Try.prog 22 1 := ⟨by kernel_rfl⟩
instance : BytesT Try.prog 22 24 := ⟨by kernel_rfl⟩
instance : SliceT Try.prog 22 5 := ⟨by kernel_rfl⟩
instance : ZeroT Try.prog 22 (.slice none 0 0) := ⟨by kernel_rfl⟩
instance : ArrayT Try.prog 24 32 5 := ⟨by kernel_rfl⟩
instance : FieldT Try.prog 26 0 0 3 := ⟨by kernel_rfl⟩
instance : FieldT Try.prog 26 1 1 24 := ⟨by kernel_rfl⟩
instance : FieldT Try.prog 26 2 33 22 := ⟨by kernel_rfl⟩
instance : ArrayT Try.prog 27 16 26 := ⟨by kernel_rfl⟩
instance : FieldT Try.prog 29 0 0 3 := ⟨by kernel_rfl⟩
instance : FieldT Try.prog 29 1 1 22 := ⟨by kernel_rfl⟩
instance : FieldT Try.prog 29 2 2 22 := ⟨by kernel_rfl⟩
instance : FieldT Try.prog 29 3 3 4 := ⟨by kernel_rfl⟩
instance : FieldT Try.prog 29 4 4 26 := ⟨by kernel_rfl⟩
instance : FieldT Try.prog 29 5 38 27 := ⟨by kernel_rfl⟩
instance : SliceT Try.prog 43 22 := ⟨by kernel_rfl⟩
end Go.Proofs.Ytabpegdalmagpaa
/- Sl: slices: read, cut, built, appended to. By this project. -/
namespace Go.Proofs.Ytabpegdalmagpaa
open Go.RowKit Go.Extern.Stop
section
variable {P : Program} {n : Nat} {w0 : World} {l : FL} {L : HL} {Q : GQ} {ops : Array Oper} {rest : List Oper}
def RS (w0 : World) (L : HL) (A : Option Addr) (cs : List Value) : Prop := ∀ w, St w0 w L → ∀ (j : Nat) (v : Value), cs[j]? = some v → ∃ ad, A = some ad ∧ w.cell? (ad.add j) = some v
theorem rs_nil {A : Option Addr} : RS w0 L A [] := fun _ _ j v h => by simp at h
theorem rs_lies {A : Option Addr} {cs : List Value} (h : Lies w0 L A cs) : RS w0 L A cs := fun w hs j v hv => by
 obtain ⟨ad, h1, h2⟩ := h w hs
 exact ⟨ad, h1, h2 j v hv⟩
theorem rs_loc {b o i k : Nat} {C cs : List Value} {E : TypeId} {fz : Nat × Nat} [hL : AtL b L (.cells C.toArray E fz) i] (hc : (C.drop o).take k = cs) : RS w0 L (some ⟨b, o, none⟩) cs := hc ▸ rs_lies (lies_loc hL.h)
def RW (w : World) (A : Option Addr) (cs : List Value) : Prop := ∀ (j : Nat) (v : Value), cs[j]? = some v → ∃ ad, A = some ad ∧ w.cell? (ad.add j) = some v
theorem firstCells_rw {w : World} {A : Option Addr} {cs : List Value} (h : RW w A cs) {m s c : Nat} (hl : cs.length = m * s) : (Builtin.firstCells s m (.slice A m c)).run P w = .ok cs.toArray w := by
 cases A with
 | some ad =>
  refine run_firstCells_some w s m ad m c cs hl fun j v hv => ?_
  obtain ⟨ad', h1, h2⟩ := h j v hv
  obtain rfl := Option.some.inj h1
  exact h2
 | none =>
  have : cs = [] := by
   cases cs with
   | nil => rfl
   | cons v r => obtain ⟨ad, h1, _⟩ := h 0 v rfl; simp at h1
  subst this
  exact run_firstCells_none w s m m c
theorem src_rw {w : World} {B : Option Addr} {cs : List Value} {t e : TypeId} {k s c : Nat} (ht : sliceT P t = some e) (h : RW w B cs) (hs : 0 < s) (hl : cs.length = k * s) (h1 : cs.all (·.oneCell') = true) : Src P s t (.slice B k c) k cs w :=
 ⟨.inl ⟨e, und_slice ht⟩, fun _ => rfl, firstCells_rw h hl, firstCells_rw (w := w.drew) h hl, hl, fun u hu => (List.all_eq_true.1 h1) u hu⟩
theorem ef_appG {K : FL → HL → Prop} {tS tX e e' : TypeId} {s x : Operand} {A B : Option Addr} {m c k c2 sz bs d : Nat} {z : Value} {old new : List Value} {ty : TypeId} {ps : String} {af : Array Edge} {gd : Option (Nat × Bool)} (hlt : Nat.ble (d + 1) n = true)
  (hs : evl l s = some (.slice A m c)) (hx : evl l x = some (.slice B k c2)) [tS' : SliceT P tS e] [tX' : SliceT P tX e'] [hz : SizeT P e sz] [hb : BytesT P e bs] [hZ : ZeroT P e z] {zc : List Value} [hzc : CellsOf z zc] (hzl : zc.length = sz)
  (hold : RS w0 L A old) (hol : old.length = m * sz) (hnew : RS w0 L B new) (hnl : new.length = k * sz) (h1 : new.all (·.oneCell') = true) (hsz : 0 < sz) (hg : c < m + k) (h63 : m + k ≤ 9223372036854775807) (hfit : (m + k + (m + k) / 4 + 192) * bs ≤ 281474976710656)
  (kk : ∀ b sp c', m + k ≤ c' → sp.length = (c' - (m + k)) * sz → K ((d, .slice (some ⟨b, 0, none⟩) (m + k) c') :: l) ((some b, .cells (old ++ new ++ sp).toArray e (0, 0)) :: L)) :
  EF P n w0 l L ⟨some d, .call { callee := .builtin .append, args := #[s, x], argTypes := #[tS, tX] }, ty, ps, af, gd⟩ K := by
 unfold EF
 intro a w hf hs'
 have hi := hz.h
 unfold sizeT at hi
 cases hinfo : P.info? e with
 | none => rw [hinfo] at hi; simp at hi
 | some i =>
  rw [hinfo] at hi
  simp only [Option.map_some, Option.some.injEq] at hi
  have hb' := hb.h
  simp only [bytesT, hinfo, Option.map_some, Option.some.injEq] at hb'
  have hZ' := hZ.h
  simp only [zeroT, hinfo, Option.bind_some] at hZ'
  subst hb' hi
  have hrun := run_append_grow_src (P := P) w tS tX ty e i z (und_slice tS'.h) hinfo hZ' A m c old (firstCells_rw (w := w.drew) (hold w hs') hol) (.slice B k c2) k new (src_rw tX'.h (hnew w hs') hsz hnl h1) hg (by omega) (growslice_fits_wide hg hfit)
  have hcap : m + k ≤ grownCap w (m + k) c e := by unfold grownCap Question.cut; exact Nat.le_add_right _ _
  refine ⟨_, (w.drew.alloc (.cells ((old ++ new).toArray ++ Builtin.zeroCells z.cells (grownCap w (m + k) c e - (m + k))) e)), _, ?_, .inl rfl, _, _, fun a' hf' => hf'.put d (Nat.le_of_ble_eq_true hlt) _, ?_, kk w.heap.size (Builtin.zeroCells z.cells (grownCap w (m + k) c e - (m + k))).toList (grownCap w (m + k) c e) hcap ?_⟩
  ·simp [execOp, resolve, invoke, builtin, hf.ev hs, hf.ev hx, hrun]
  ·have := (hs'.drew).alloc (.cells ((old ++ new).toArray ++ Builtin.zeroCells z.cells (grownCap w (m + k) c e - (m + k))) e)
   have e1 : (old ++ new).toArray ++ Builtin.zeroCells z.cells (grownCap w (m + k) c e - (m + k)) = (old ++ new ++ (Builtin.zeroCells z.cells (grownCap w (m + k) c e - (m + k))).toList).toArray := by
    apply Array.ext'; simp
   rw [e1] at this ⊢
   exact this
  ·simp [Builtin.zeroCells, hzc.h, hzl]
theorem ef_appR {K : FL → HL → Prop} {tS tX e e' : TypeId} {s x : Operand} {B : Option Addr} {m c k c2 sz d b o i : Nat} {C C' new : List Value} {E : TypeId} {L' : HL} {ty : TypeId} {ps : String} {af : Array Edge} {gd : Option (Nat × Bool)} (hlt : Nat.ble (d + 1) n = true)
    (hs : evl l s = some (.slice (some ⟨b, o, none⟩) m c)) (hx : evl l x = some (.slice B k c2)) [tS' : SliceT P tS e] [tX' : SliceT P tX e'] [hz : SizeT P e sz] [hL : AtL b L (.cells C.toArray E (0, 0)) i]
    (hnew : RS w0 L B new) (hnl : new.length = k * sz) (h1 : new.all (·.oneCell') = true) (hsz : 0 < sz) (hg : m + k ≤ c) (hfit : o + (m + k) * sz ≤ C.length) (hC : overC C (o + m * sz) new = C') [hS : SetL L i (some b, .cells C'.toArray E (0, 0)) L']
    (kk : K ((d, .slice (some ⟨b, o, none⟩) (m + k) c) :: l) L') :
    EF P n w0 l L ⟨some d, .call { callee := .builtin .append, args := #[s, x], argTypes := #[tS, tX] }, ty, ps, af, gd⟩ K := by
  unfold EF
  intro a w hf hs'
  have hi := hz.h
  unfold sizeT at hi
  cases hinfo : P.info? e with
  | none => rw [hinfo] at hi; simp at hi
  | some j =>
    rw [hinfo] at hi
    simp only [Option.map_some, Option.some.injEq] at hi
    subst hi
    have hblk := (hs'.has i b _ hL.h).1
    have hle : o + m * j.size + new.length ≤ C.length := by
      have : (m + k) * j.size = m * j.size + k * j.size := Nat.add_mul ..
      omega
    have hrun := run_append_room_src (P := P) w tS tX ty e j (und_slice tS'.h) hinfo b o m c (.slice B k c2) k new (src_rw tX'.h (hnew w hs') hsz hnl h1) hg
      (fun q hq => by have : o + m * j.size + q < C.length := by omega
                      simp [World.cell?, hblk, this]) (fun q hq => by simp [World.frozen?, hblk])
    refine ⟨_, w.setCells b (o + m * j.size) new, _, ?_, .inl rfl, _, _, fun a' hf' => hf'.put d (Nat.le_of_ble_eq_true hlt) _, ?_, kk⟩
    · simp [execOp, resolve, invoke, builtin, hf.ev hs, hf.ev hx, hrun]
    · rw [← hS.h, ← hC]
      exact hs'.over hL.h hle
theorem zeroFill {z : Value} {zc : List Value} (h : CellsOf z zc) (k : Nat) (hs : zc.length = 1) : ((Array.range k).map (z.cells[· % z.cells.size]!)) = (List.replicate k (zc.headD undef)).toArray := by
 have hz := h.h
 match zc, hs with
 | [v], _ =>
  rw [hz]
  apply Array.ext
  ·simp
  ·intro i h1 h2
   simp [Nat.mod_one]
theorem ef_bs {K : FL → HL → Prop} {t e : TypeId} {k d : Nat} {z : Value} {zc : List Value} {xs : List (Nat × Operand)} {qs : List (Nat × List Value)} {C : List Value} {ty : TypeId} {ps : String} {af : Array Edge} {gd : Option (Nat × Bool)} (hlt : Nat.ble (d + 1) n = true)
  [ht : SliceT P t e] [hz : SizeT P e 1] [hZ : ZeroT P e z] [hzc : CellsOf z zc] (hzl : zc.length = 1) (hk : Nat.ble k 16777216 = true) (hq : Parts l (fun i => some (i * 1, 1)) k xs qs) (hC : putAll (List.replicate k (zc.headD undef)) qs = C)
  (kk : ∀ b, K ((d, .slice (some ⟨b, 0, none⟩) k k) :: l) ((some b, .cells C.toArray e (0, 0)) :: L)) :
  EF P n w0 l L ⟨some d, .buildSlice t k xs.toArray, ty, ps, af, gd⟩ K := by
 unfold EF
 intro a w hf hs
 refine ⟨_, w.alloc (.cells C.toArray e), .slice (some ⟨w.heap.size, 0, none⟩) k k, ?_, .inl rfl, _, _, fun a' hf' => hf'.put d (Nat.le_of_ble_eq_true hlt) _, hs.alloc _, kk w.heap.size⟩
 have hk' := Nat.le_of_ble_eq_true hk
 have hzv : (zeroValue e).run P w = .ok z w := by
  have hZ := hZ.h
  unfold zeroT at hZ
  cases hi : P.info? e with
  | none => rw [hi] at hZ; simp at hZ
  | some i => rw [hi] at hZ; simp only [Option.bind_some] at hZ; simp [zeroValue, typeInfo, hi, hZ]
 have hfill := fill_parts (place := fun i => some (i * 1, 1)) hf (List.replicate k (zc.headD undef)) hq (by simp)
 rw [hC] at hfill
 simp only [execOp, List.map_toArray, Instr.buildSlice, Sem.run_bind, run_underlying (und_slice ht.h) w, Result.andThen_ok, run_sizeOf hz.h w]
 rw [if_neg (by omega)]
 by_cases h0 : k = 0
 ·subst h0
  simp only [Nat.zero_mul, if_true, Sem.run_bind, Sem.run_pure, Result.andThen_ok]
  have e1 : ((Array.range 0).map fun x => (#[] : Array Value)[x % (#[] : Array Value).size]!) = (List.replicate 0 (zc.headD undef)).toArray := by simp
  rw [e1, hfill]
  simp [newRow]
 ·have h1 : ¬ k * 1 = 0 := by omega
  rw [if_neg h1]
  simp only [Sem.run_bind, hzv, Result.andThen_ok, Sem.run_pure]
  rw [Nat.mul_one, zeroFill hzc k hzl, hfill]
  simp [newRow]
end
/- Go: a rule for going on without care; bytes. By this project. -/
def noLoop : Code → Bool
 | .loop _ => false
 | .scope _ => false
 | .seq a b => noLoop a && noLoop b
 | .cond _ a b => noLoop a && noLoop b
 | .block _ c => noLoop c
 | _ => true
section
variable {P : Program} {n : Nat} {w0 : World} {l : FL} {L : HL} {Q : GQ} {ops : Array Oper} {rest : List Oper}
theorem g_seqN {x y : Code} (hx : noLoop x = true) (h : G P n w0 x l L (gthen (fun l L => G P n w0 y l L Q) Q)) : G P n w0 (.seq x y) l L Q := g_seq h
end
def offR (x y : Option Nat × Obj) : Prop := x.1 = none ∨ x.1 ≠ y.1
theorem offR_symm {x y : Option Nat × Obj} (h : offR x y) : offR y x := by
 unfold offR at *
 rcases h with h | h
 ·cases hy : y.1 with
  | none => exact .inl rfl
  | some b => exact .inr (by rw [h]; simp)
 ·exact .inr fun e => h e.symm
theorem St.off {w0 w : World} {L : HL} (h : St w0 w L) : L.Pairwise offR := by
 rw [List.pairwise_iff_getElem]
 intro i j hi hj hij
 cases e : L[i].1 with
 | none => exact .inl e
 | some b =>
  refine .inr fun e2 => ?_
  have := h.one i j b L[i].2 L[j].2 (by rw [List.getElem?_eq_getElem hi, ← e]) (by rw [List.getElem?_eq_getElem hj, ← e, e2])
  omega
theorem St.of_off {w0 w : World} {L L' : HL} (h : St w0 w L) (hm : ∀ x ∈ L', x ∈ L) (ho : L'.Pairwise offR) : St w0 w L' := by
 refine ⟨h.below, fun i b o hi => ?_, fun i j b o o' hi hj => ?_⟩
 ·obtain ⟨j, hj⟩ := List.getElem?_of_mem (hm _ (List.mem_of_getElem? hi))
  exact h.has j b o hj
 ·rw [List.pairwise_iff_getElem] at ho
  obtain ⟨i1, i2⟩ := List.getElem?_eq_some_iff.1 hi
  obtain ⟨j1, j2⟩ := List.getElem?_eq_some_iff.1 hj
  rcases Nat.lt_trichotomy i j with g | g | g
  ·have := ho i j i1 j1 g
   rw [i2, j2] at this
   rcases this with e | e <;> simp at e
  ·exact g
  ·have := ho j i j1 i1 g
   rw [i2, j2] at this
   rcases this with e | e <;> simp at e
theorem St.perm {w0 w : World} {L L' : HL} (h : St w0 w L) (p : L.Perm L') : St w0 w L' := h.of_off (fun x hx => p.mem_iff.2 hx) ((p.pairwise_iff (fun h => offR_symm h)).1 h.off)
theorem St.sub {w0 w : World} {L L' : HL} (h : St w0 w L) (s : L'.Sublist L) : St w0 w L' := h.of_off (fun x hx => s.subset hx) (h.off.sublist s)
theorem ov_extr {P : Program} {w0 : World} {l : FL} {L : HL} {i : Nat} {x : Operand} {vs : List Value} {v : Value} {dst : Option Tmp} {ty : TypeId} {ps : String} {af : Array Edge} {gd : Option (Nat × Bool)} (hx : evl l x = some (.tuple vs.toArray)) (hv : vs[i]? = some v) : OV P w0 L l ⟨dst, .extract x i, ty, ps, af, gd⟩ v :=
 ov_extract hx (by simpa using hv)
inductive Seq (l : FL) : Nat → List (Nat × Operand) → List Value → Prop
 | nil {i : Nat} : Seq l i [] []
 | cons {i : Nat} {x : Operand} {v : Value} {r : List (Nat × Operand)} {vs : List Value} (hx : evl l x = some v) (h1 : CellsOf v [v]) (h : Seq l (i + 1) r vs) : Seq l i ((i, x) :: r) (v :: vs)
theorem Seq.len {l : FL} {i : Nat} {xs : List (Nat × Operand)} {vs : List Value} (h : Seq l i xs vs) : xs.length = vs.length := by
 induction h with
 | nil => rfl
 | cons _ _ _ ih => simp [ih]
theorem Seq.parts {l : FL} {m i : Nat} {xs : List (Nat × Operand)} {vs : List Value} (h : Seq l i xs vs) (hm : i + xs.length ≤ m) :
  ∃ qs, Parts l (fun i => some (i * 1, 1)) m xs qs ∧ ∀ C : List Value, i + vs.length ≤ C.length → putAll C qs = C.take i ++ vs ++ C.drop (i + vs.length) := by
 induction h with
 | nil => exact ⟨[], .nil, fun C _ => by simp [putAll]⟩
 | @cons i x v r vs hx h1 h ih =>
  simp only [List.length_cons] at hm
  obtain ⟨qs, g1, g2⟩ := ih (by omega)
  refine ⟨(i * 1, [v]) :: qs, .cons hx h1 rfl rfl (by simp; omega) g1, fun C hC => ?_⟩
  simp only [List.length_cons] at hC ⊢
  show putAll (overC C (i * 1) [v]) qs = _
  rw [g2 _ (by rw [overC_len (by simp; omega)]; omega)]
  simp only [overC, Nat.mul_one, List.length_cons, List.length_nil]
  have e0 : (C.take i).length = i := by simp; omega
  rw [List.take_append_of_le_length (by simp; omega), List.take_of_length_le (by simp; omega), List.drop_append, List.drop_of_length_le (by simp; omega), List.drop_drop]
  simp only [List.length_append, List.length_cons, List.length_nil, e0]
  rw [show i + 1 + (i + 1 + vs.length - (i + 1)) = i + (vs.length + 1) by omega]
  simp
theorem ef_bl {P : Program} {n : Nat} {w0 : World} {l : FL} {L : HL} {K : FL → HL → Prop} {t e : TypeId} {k d : Nat} {z : Value} {zc : List Value} {xs : List (Nat × Operand)} {C : List Value} {ty : TypeId} {ps : String} {af : Array Edge} {gd : Option (Nat × Bool)} (hlt : Nat.ble (d + 1) n = true)
  [ht : SliceT P t e] [hz : SizeT P e 1] [hZ : ZeroT P e z] [hzc : CellsOf z zc] (hzl : zc.length = 1) (hk : Nat.ble k 16777216 = true) (hq : Seq l 0 xs C) (hC : xs.length = k)
  (kk : ∀ b, K ((d, .slice (some ⟨b, 0, none⟩) k k) :: l) ((some b, .cells C.toArray e (0, 0)) :: L)) :
  EF P n w0 l L ⟨some d, .buildSlice t k xs.toArray, ty, ps, af, gd⟩ K := by
 obtain ⟨qs, g1, g2⟩ := hq.parts (m := k) (by omega)
 have hl := hq.len
 refine ef_bs hlt hzl hk g1 ?_ kk
 rw [g2 _ (by simp; omega)]
 simp [List.drop_of_length_le, show k ≤ C.length by omega]
structure HoldG (K : Prop) : Prop where h : K
theorem ggo {G K : Prop} (k : K) (h : HoldG K → G := by (intro k; (repeat (first | ((first | (apply gn; iterate 3 exact rfl) | (apply gg; iterate 5 exact rfl) | (apply qn; iterate 3 exact rfl) | (apply qg; iterate 5 exact rfl)); first | (apply ov_move; exact rfl) | (apply ov_assign; exact rfl) | (apply ov_len; exact rfl) | (apply ov_extr; exact rfl; exact rfl) | (apply ov_fa; exact rfl) | (apply ov_not; exact rfl) | (apply ov_pickT; exact rfl; exact rfl) | (apply ov_pickF; exact rfl; exact rfl) | exact ov_ldl rfl rfl | exact ov_int rfl rfl (bin_add ..) | exact ov_int rfl rfl (bin_sub ..) | exact ov_int rfl rfl (bin_mul ..)) | apply gl_nil | (apply g_seqN; exact rfl) | apply g_block | apply g_region | (apply g_condT; exact rfl) | (apply g_condF; exact rfl) | apply g_skip | apply g_label | (apply gi; iterate 5 exact rfl) | (apply gu; iterate 5 exact rfl) | apply glq_nil | (apply qi; iterate 5 exact rfl) | (apply qu; iterate 5 exact rfl) | (apply g_quiet; kernel_rfl; kernel_rfl))); exact k.h)) : G := h ⟨k⟩
/- Sha1: the words of SHA-256: what the document's arithmetic is, in numbers; RotR. By this project. -/
def addW (x y : Nat) : Nat := Nat.mod (Nat.add x y) 4294967296
def shrW (x n : Nat) : Nat := Nat.div (Nat.mod x 4294967296) (2 ^ n)
def shlW (x n : Nat) : Nat := Nat.mod (Nat.mul x (2 ^ n)) 4294967296
def rotW (x n : Nat) : Nat := Nat.lor (shrW x n) (shlW x (32 - n))
def notW (x : Nat) : Nat := Nat.xor 4294967295 x
attribute [irreducible] addW shrW shlW notW
attribute [irreducible] rotW
/- Cs: calls that write into the caller's own blocks; loads and stores in such. By this project. -/
section
variable {P : Program} {n : Nat} {w0 : World} {l : FL} {L : HL} {Q : GQ} {ops : Array Oper} {rest : List Oper}
def ClS (P : Program) (f : FuncId) (args : Array Value) (w0 : World) (L : HL) (R : Value → HL → Prop) : Prop := ∀ w, St w0 w L → Calls P f args w fun e w' => ∃ v N, e = .returned v ∧ St w0 w' N ∧ R v N
theorem cls_of_g {f : FuncId} {fn : Func} {c : Code} {vs : List Value} {R : Value → HL → Prop} (hf : P.funcs[f]? = some fn) (hb : fn.body = some c) (hn : Nat.ble vs.length fn.ntmps = true)
  (h : G P fn.ntmps w0 c (argsFL 0 vs) L (GQend P w0 fn.results R)) : ClS P f vs.toArray w0 L R := by
 unfold G at h
 intro w hs
 refine calls_of_wp hf hb (wp_mono (h _ w ⟨rfl, by have := Nat.le_of_ble_eq_true hn; simp; omega, fun t v hv => ?_⟩ hs) fun e a' w' ⟨l', L', h1, h2, h3⟩ => ?_)
 ·obtain ⟨_, h2⟩ := argsFL_look vs 0 t v hv
  have hlt : t < vs.length := (List.getElem?_eq_some_iff.1 h2).1
  simp only [Nat.sub_zero] at h2
  rw [Array.getElem?_append_left (by simpa using hlt)]
  simpa using h2
 ·cases e <;> first | exact h3.elim | (obtain ⟨v, hv, hR⟩ := h3; exact ⟨h1.defers, v, hv a' _ w' fn rfl h1 h2, v, L', rfl, h2, hR⟩)
theorem gl_know {φ : Prop} (h : ∀ w, St w0 w L → φ) (k : φ → GL P n w0 ops rest l L Q) : GL P n w0 ops rest l L Q := by
 unfold GL at *
 exact fun a w hf hs => k (h w hs) a w hf hs
variable {S : World → Prop} {fuel : Nat} {listed : Array Bool}
end
/- Sha2: a block taken into the words: sha.(*State).block does what the document's rounds are. By this project. -/
def byteN (b : List UInt8) (i : Nat) : Nat := match b[i]? with
 | some x => x.toNat
 | none => 0
def wordN (ws : List Nat) (i : Nat) : Nat := ws.getD i 0
def w0N (b : List UInt8) (t : Nat) : Nat := Nat.lor (Nat.lor (Nat.lor (shlW (byteN b (4 * t)) 24) (shlW (byteN b (4 * t + 1)) 16)) (shlW (byteN b (4 * t + 2)) 8)) (byteN b (4 * t + 3))
def s1N (y : Nat) : Nat := Nat.xor (Nat.xor (rotW y 17) (rotW y 19)) (shrW y 10)
def s0N (x : Nat) : Nat := Nat.xor (Nat.xor (rotW x 7) (rotW x 18)) (shrW x 3)
def wNext (b : List UInt8) (ws : List Nat) (t : Nat) : Nat :=
 if t < 16 then w0N b t else addW (s1N (wordN ws (t - 2))) (addW (addW (wordN ws (t - 7)) (wordN ws (t - 16))) (s0N (wordN ws (t - 15))))
def wExp (b : List UInt8) : Nat → List Nat
 | 0 => []
 | t + 1 => wExp b t ++ [wNext b (wExp b t) t]
def kW : List Nat := [1116352408, 1899447441, 3049323471, 3921009573, 961987163, 1508970993, 2453635748, 2870763221, 3624381080, 310598401, 607225278, 1426881987, 1925078388, 2162078206, 2614888103, 3248222580, 3835390401, 4022224774, 264347078, 604807628, 770255983, 1249150122, 1555081692, 1996064986, 2554220882, 2821834349, 2952996808, 3210313671, 3336571891, 3584528711, 113926993, 338241895, 666307205, 773529912, 1294757372, 1396182291, 1695183700, 1986661051, 2177026350, 2456956037, 2730485921, 2820302411, 3259730800, 3345764771, 3516065817, 3600352804, 4094571909, 275423344, 430227734, 506948616, 659060556, 883997877, 958139571, 1322822218, 1537002063, 1747873779, 1955562222, 2024104815, 2227730452, 2361852424, 2428436474, 2756734187, 3204031479, 3329325298]
def t1N (v : List Nat) (k w : Nat) : Nat :=
 addW (addW (addW (addW (wordN v 7) (Nat.xor (Nat.xor (rotW (wordN v 4) 6) (rotW (wordN v 4) 11)) (rotW (wordN v 4) 25))) (Nat.xor (Nat.land (wordN v 4) (wordN v 5)) (Nat.land (notW (wordN v 4)) (wordN v 6)))) k) w
def t2N (v : List Nat) : Nat :=
 addW (Nat.xor (Nat.xor (rotW (wordN v 0) 2) (rotW (wordN v 0) 13)) (rotW (wordN v 0) 22)) (Nat.xor (Nat.xor (Nat.land (wordN v 0) (wordN v 1)) (Nat.land (wordN v 0) (wordN v 2))) (Nat.land (wordN v 1) (wordN v 2)))
def rnd (v : List Nat) (k w : Nat) : List Nat := [addW (t1N v k w) (t2N v), wordN v 0, wordN v 1, wordN v 2, addW (wordN v 3) (t1N v k w), wordN v 4, wordN v 5, wordN v 6]
def rds (v : List Nat) (b : List UInt8) : Nat → List Nat
 | 0 => v
 | t + 1 => rnd (rds v b t) (wordN kW t) (wordN (wExp b 64) t)
theorem rds_len {v : List Nat} (h : v.length = 8) (b : List UInt8) : ∀ t, (rds v b t).length = 8
 | 0 => h
 | _ + 1 => rfl
def blk (v : List Nat) (b : List UInt8) : List Nat := List.zipWith addW v (rds v b 64)
theorem blk_len {v : List Nat} (h : v.length = 8) (b : List UInt8) : (blk v b).length = 8 := by simp [blk, h, rds_len h]
end Go.Proofs.Ytabpegdalmagpaa
