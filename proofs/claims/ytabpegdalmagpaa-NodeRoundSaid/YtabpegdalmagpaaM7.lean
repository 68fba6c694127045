/- THE LAW NodeRound: what may be is written and read again, what is read of any bytes is written as just these, and unlike nodes have unlike bytes; every input. No conditions. By this project. -/
import Derived.Test.YtabpegdalmagpaaM6
import Derived.Test.YtabpegdalmagpaaRows
import Derived.SizedLaws
import Derived.JoinedOf
set_option linter.unusedVariables false
set_option linter.unusedSimpArgs false
set_option linter.unusedSectionVars false
set_option maxRecDepth 100000
/- Ne1: nodes that are handed in, opened. By this project. -/
set_option maxRecDepth 100000
namespace Go.Proofs.Ytabpegdalmagpaa
open Go.ChangeShapes Go.WideShapes Go.ChangeAt Go.RowKit Go.Extern.Stop
structure RefE where
 k : Int
 h : List UInt8
 q : GV
 n : List UInt8
 c : Nat
def RefE.r (e : RefE) : RefS := ⟨e.k, e.h, e.n⟩
def RefE.cells (e : RefE) : List Value := .int .i64 e.k :: (e.h.map cell ++ [.slice e.q.A e.n.length e.c])
structure RefEOk (W : World) (e : RefE) : Prop where
 h : e.h.length = 32
 n : BOk W e.q e.n e.c
structure NodE where
 k : Int
 pq : GV
 path : List UInt8
 pc : Nat
 vq : GV
 val : List UInt8
 vc : Nat
 full : Bool
 next : RefE
 kids : List RefE
def NodE.n (e : NodE) : NodS := ⟨e.k, e.path, e.val, e.full, e.next.r, e.kids.map RefE.r⟩
def NodE.cells (e : NodE) : List Value := .int .i64 e.k :: .slice e.pq.A e.path.length e.pc :: .slice e.vq.A e.val.length e.vc :: .bool e.full :: (e.next.cells ++ e.kids.flatMap RefE.cells)
structure NodEOk (W : World) (e : NodE) : Prop where
 p : BOk W e.pq e.path e.pc
 v : BOk W e.vq e.val e.vc
 next : RefEOk W e.next
 len : e.kids.length = 16
 kids : ∀ x ∈ e.kids, RefEOk W x
def NodE.g (e : NodE) : List GV := e.pq :: e.vq :: e.next.q :: e.kids.map (·.q)
def refV (p : Nat) (e : RefE) : List V := refC e.r (gvV p e.q e.n.length e.c)
def refsV : Nat → List RefE → List (List V)
 | _, [] => []
 | p, e :: r => refV p e :: refsV (p + 1) r
def nodV (p : Nat) (e : NodE) : List V := nodC e.n (gvV p e.pq e.path.length e.pc) (gvV (p + 1) e.vq e.val.length e.vc) (refV (p + 2) e.next) (refsV (p + 3) e.kids).flatten
theorem bok_ren {W : World} {bs : List GV} {q : GV} {xs : List UInt8} {c p : Nat} (h : BOk W q xs c) (hp : bs[p]? = some q) : ren (gvE bs) (gvV p q xs.length c) = some (.slice q.A xs.length c) := ren_gv hp (fun a ha hs => by
 obtain ⟨x, y⟩ := h.spot a ha hs
 exact ⟨by rw [x]; rfl, y⟩)
theorem ref_ren {W : World} {bs : List GV} {e : RefE} {p : Nat} (h : RefEOk W e) (hp : bs[p]? = some e.q) : renL (gvE bs) (refV p e) = some e.cells := by
 have h1 : renL (gvE bs) [gvV p e.q e.n.length e.c] = some [.slice e.q.A e.n.length e.c] := by simp [renL, bok_ren h.n hp]
 have h2 : renL (gvE bs) (e.r.h.map byV ++ [gvV p e.q e.n.length e.c]) = some (e.h.map cell ++ [.slice e.q.A e.n.length e.c]) := renL_joinA (renL_bytes (E := gvE bs) e.h) h1
 unfold refV refC
 simp only [renL, h2, ren, Option.bind_some, Option.map_some]
 rfl
theorem refs_ren {W : World} {bs : List GV} : ∀ {l : List RefE} {p : Nat}, (∀ e ∈ l, RefEOk W e) → AtG bs p (l.map (·.q)) → renL (gvE bs) (refsV p l).flatten = some (l.flatMap RefE.cells)
 | [], _, _, _ => rfl
 | e :: r, p, h1, h2 => by
  rw [List.map_cons] at h2
  have k1 := h2 0 _ rfl
  rw [Nat.add_zero] at k1
  rw [refsV, List.flatten_cons, List.flatMap_cons]
  exact renL_joinA (ref_ren (h1 e List.mem_cons_self) k1) (refs_ren (fun e he => h1 e (List.mem_cons_of_mem _ he)) h2.tail)
theorem nod_ren {W : World} {bs : List GV} {e : NodE} {p : Nat} (h : NodEOk W e) (hp : AtG bs p e.g) : renL (gvE bs) (nodV p e) = some e.cells := by
 have k0 := hp 0 _ rfl
 have k1 := hp 1 _ rfl
 have k2 := hp 2 _ rfl
 rw [Nat.add_zero] at k0
 have r0 := bok_ren h.p k0
 have r1 := bok_ren h.v k1
 have r2 := ref_ren h.next k2
 have r3 : renL (gvE bs) (refsV (p + 3) e.kids).flatten = some (e.kids.flatMap RefE.cells) := refs_ren h.kids hp.tail.tail.tail
 have r4 := renL_joinA r2 r3
 unfold nodV nodC
 simp only [renL, r0, r1, r4, ren, Option.bind_some, Option.map_some]
 rfl
theorem ref_one {e : RefE} : e.cells.all (·.oneCell') = true := by
 refine List.all_eq_true.2 fun v hv => ?_
 simp only [RefE.cells, List.mem_cons, List.mem_append, List.mem_map, List.not_mem_nil, or_false] at hv
 rcases hv with rfl | ⟨x, _, rfl⟩ | rfl <;> rfl
theorem nod_one {e : NodE} : e.cells.all (·.oneCell') = true := by
 refine List.all_eq_true.2 fun v hv => ?_
 simp only [NodE.cells, List.mem_cons, List.mem_append, List.mem_flatMap] at hv
 rcases hv with rfl | rfl | rfl | rfl | hv | ⟨x, _, hv⟩
 ·rfl
 ·rfl
 ·rfl
 ·rfl
 ·exact List.all_eq_true.1 ref_one v hv
 ·exact List.all_eq_true.1 ref_one v hv
theorem nod_ren1 {W : World} {bs : List GV} {e : NodE} {p : Nat} (h : NodEOk W e) (hp : AtG bs p e.g) : ren (gvE bs) (.agg (nodV p e)) = some (.agg e.cells.toArray) := ren_agg_mk (nod_ren h hp) nod_one
theorem nod_gv {W : World} {E : Env} {e : NodE} (h : NodEOk W e) : ∀ q ∈ e.g, GvOk W E q := fun q hq => by
 unfold NodE.g at hq
 simp only [List.mem_cons, List.mem_map] at hq
 rcases hq with rfl | rfl | rfl | ⟨x, hx, rfl⟩
 ·exact h.p.gv
 ·exact h.v.gv
 ·exact h.next.n.gv
 ·exact (h.kids x hx).n.gv
section
variable {bs : List GV} {B : Bs} {W : World} (hb : ∀ j q, bs[j]? = some q → RB B (gvA j q) q.cs)
include hb
theorem ref_p {e : RefE} {p : Nat} (h : RefEOk W e) (hp : bs[p]? = some e.q) : RefP (rbP B) e.r (refV p e) := by
 have := hb _ _ hp
 rw [h.n.cs] at this
 exact ⟨h.h, gvA p e.q, e.c, false, rfl, this, h.n.cap⟩
theorem refs_p : ∀ {l : List RefE} {p : Nat}, (∀ e ∈ l, RefEOk W e) → AtG bs p (l.map (·.q)) → RefsP (rbP B) (l.map RefE.r) (refsV p l)
 | [], _, _, _ => rfl
 | e :: r, p, h1, h2 => by
  rw [List.map_cons] at h2
  have k1 := h2 0 _ rfl
  rw [Nat.add_zero] at k1
  exact ⟨_, _, rfl, ref_p hb (h1 e List.mem_cons_self) k1, refs_p (fun e he => h1 e (List.mem_cons_of_mem _ he)) h2.tail⟩
theorem nod_p {e : NodE} {p : Nat} (h : NodEOk W e) (hp : AtG bs p e.g) : NodP (rbP B) e.n (nodV p e) := by
 have k0 := hp 0 _ rfl
 have k1 := hp 1 _ rfl
 have k2 := hp 2 _ rfl
 rw [Nat.add_zero] at k0
 have b0 := hb _ _ k0
 have b1 := hb _ _ k1
 rw [h.p.cs] at b0
 rw [h.v.cs] at b1
 refine ⟨by show (e.kids.map RefE.r).length = 16; rw [List.length_map, h.len], gvA p e.pq, e.pc, false, gvA (p + 1) e.vq, e.vc, false, refV (p + 2) e.next, refsV (p + 3) e.kids, rfl, b0, h.p.cap, b1, h.v.cap, ref_p hb h.next k2, refs_p hb h.kids hp.tail.tail.tail⟩
end
theorem trod_elem {H : Type} {enc : TypeId × Value → H} {P : Program} {W : World} {base : Nat} {held : Bool} {t e : TypeId} {n : Nat} (ht : arrayT P t = some (n, e)) {fuel : Nat} {cs : List Value} {d : DataW H} {ps : List MemPlace} (h : DataW.trod enc P W base (fun _ => true) held fuel t cs = some (d, ps)) (hz : (DataW.weights P t d).all (· ≤ reachBytes) = true) :
  cs.length = P.cellsOf t ∧ ∀ i, i < n → ∃ m d' ps', DataW.trod enc P W base (fun _ => true) held m e ((cs.drop (i * P.cellsOf e)).take (P.cellsOf e)) = some (d', ps') ∧ (DataW.weights P e d').all (· ≤ reachBytes) = true := by
 have hu := und_array ht
 obtain ⟨xs, m, _, hx, hl, hxl, hf⟩ := DataW.trod_array hu h
 simp only [Prod.mk.injEq] at hx
 obtain ⟨rfl, rfl⟩ := hx
 refine ⟨hl, fun i hi => ?_⟩
 have h3 := hf i hi
 rw [List.getElem?_eq_getElem (by omega)] at h3
 refine ⟨m, xs[i].1, xs[i].2, h3, ?_⟩
 simp only [DataW.weights, hu] at hz
 exact weightsAll_at (List.mem_map.2 ⟨xs[i], List.getElem_mem _, rfl⟩) hz
instance : Inhabited RefE := ⟨⟨0, [], default, [], 0⟩⟩
theorem cut_one {C : List Value} {i : Nat} (h : i < C.length) : ∃ v, C[i]? = some v ∧ (C.drop i).take 1 = [v] := ⟨C[i], List.getElem?_eq_getElem h, by rw [List.drop_eq_getElem_cons h]; rfl⟩
section
variable {H : Type} {enc : TypeId × Value → H} {W : World} {base : Nat} {held : Bool}
theorem open_refE {fuel : Nat} {C : List Value} {d : DataW H} {ps : List MemPlace} (h : DataW.trod enc Try.prog W base (fun _ => true) held fuel 26 C = some (d, ps)) (hz : (DataW.weights Try.prog 26 d).all (· ≤ reachBytes) = true) :
  ∃ e : RefE, C = e.cells ∧ RefEOk W e := by
 have hl := trod_len (FieldT.h (P := Try.prog) (t := 26) (i := 0)) h
 rw [show Try.prog.cellsOf 26 = 34 by kernel_rfl] at hl
 obtain ⟨n0, d0, p0, k0, _⟩ := trod_at (FieldT.h (P := Try.prog) (t := 26) (i := 0)) h hz
 obtain ⟨n1, d1, p1, k1, _⟩ := trod_at (FieldT.h (P := Try.prog) (t := 26) (i := 1)) h hz
 obtain ⟨n2, d2, p2, k2, z2⟩ := trod_at (FieldT.h (P := Try.prog) (t := 26) (i := 2)) h hz
 rw [show Try.prog.cellsOf 3 = 1 by kernel_rfl] at k0
 rw [show Try.prog.cellsOf 24 = 32 by kernel_rfl] at k1
 rw [show Try.prog.cellsOf 22 = 1 by kernel_rfl] at k2
 obtain ⟨z0, e0, _⟩ := DataW.trod_int (und_int (IntT.h (P := Try.prog) (t := 3))) k0
 obtain ⟨hv, e1, l1⟩ := trod_bytes (ArrayT.h (P := Try.prog) (t := 24)) (IntT.h (P := Try.prog) (t := 5)) (by kernel_rfl) (by kernel_rfl) k1
 obtain ⟨s, hs, hd⟩ := cut_one (C := C) (i := 33) (by omega)
 rw [hd] at k2
 obtain ⟨q, xs, c, rfl, hB, _⟩ := open_gb (SliceT.h (P := Try.prog) (t := 22)) (IntT.h (P := Try.prog) (t := 5)) (by kernel_rfl) (by kernel_rfl) k2 z2
 refine ⟨⟨z0, hv, q, xs, c⟩, ?_, ⟨l1, hB⟩⟩
 have f1 : C = (C.drop 0).take 1 ++ ((C.drop 1).take 32 ++ (C.drop 33).take 1) := by
  have g1 : C.drop 33 = (C.drop 33).take 1 := (List.take_of_length_le (by rw [List.length_drop]; omega)).symm
  have g2 : C.drop 1 = (C.drop 1).take 32 ++ (C.drop 33) := by
   have := (List.take_append_drop 32 (C.drop 1)).symm
   rwa [List.drop_drop] at this
  have g3 : C = C.take 1 ++ C.drop 1 := (List.take_append_drop 1 C).symm
  rw [← g1, ← g2, List.drop_zero]
  exact g3
 rw [f1, e0, e1, hd]
 rfl
theorem flatMap_cut {k : Nat} {f : Nat → List Value} : ∀ {n : Nat} {C : List Value}, C.length = n * k → (∀ i, i < n → (C.drop (i * k)).take k = f i) → C = (List.range n).flatMap f
 | 0, C, h, _ => by
  obtain rfl := List.length_eq_zero_iff.1 (by omega : C.length = 0)
  rfl
 | n + 1, C, h, hf => by
  rw [Nat.succ_mul] at h
  rw [List.range_succ, List.flatMap_append]
  have h1 := hf n (Nat.lt_succ_self n)
  rw [List.take_of_length_le (by rw [List.length_drop]; omega)] at h1
  have h2 := flatMap_cut (k := k) (n := n) (C := C.take (n * k)) (f := f) (by rw [List.length_take]; omega) (fun i hi => by
   have hle : i * k + k ≤ n * k := by
    have := Nat.mul_le_mul_right k (show i + 1 ≤ n by omega)
    rwa [Nat.succ_mul] at this
   rw [← hf i (by omega), List.drop_take, List.take_take]
   congr 1
   omega)
  rw [← h2, List.flatMap_singleton, ← h1, List.take_append_drop]
theorem open_nodE {fuel : Nat} {C : List Value} {d : DataW H} {ps : List MemPlace} (h : DataW.trod enc Try.prog W base (fun _ => true) held fuel 29 C = some (d, ps)) (hz : (DataW.weights Try.prog 29 d).all (· ≤ reachBytes) = true) :
  ∃ e : NodE, C = e.cells ∧ NodEOk W e := by
 have hl := trod_len (FieldT.h (P := Try.prog) (t := 29) (i := 0)) h
 rw [show Try.prog.cellsOf 29 = 582 by kernel_rfl] at hl
 obtain ⟨n0, d0, p0, k0, _⟩ := trod_at (FieldT.h (P := Try.prog) (t := 29) (i := 0)) h hz
 obtain ⟨n1, d1, p1, k1, z1⟩ := trod_at (FieldT.h (P := Try.prog) (t := 29) (i := 1)) h hz
 obtain ⟨n2, d2, p2, k2, z2⟩ := trod_at (FieldT.h (P := Try.prog) (t := 29) (i := 2)) h hz
 obtain ⟨n3, d3, p3, k3, _⟩ := trod_at (FieldT.h (P := Try.prog) (t := 29) (i := 3)) h hz
 obtain ⟨n4, d4, p4, k4, z4⟩ := trod_at (FieldT.h (P := Try.prog) (t := 29) (i := 4)) h hz
 obtain ⟨n5, d5, p5, k5, z5⟩ := trod_at (FieldT.h (P := Try.prog) (t := 29) (i := 5)) h hz
 rw [show Try.prog.cellsOf 3 = 1 by kernel_rfl] at k0
 rw [show Try.prog.cellsOf 22 = 1 by kernel_rfl] at k1 k2
 rw [show Try.prog.cellsOf 4 = 1 by kernel_rfl] at k3
 rw [show Try.prog.cellsOf 26 = 34 by kernel_rfl] at k4
 rw [show Try.prog.cellsOf 27 = 544 by kernel_rfl] at k5
 obtain ⟨z0, e0, _⟩ := DataW.trod_int (und_int (IntT.h (P := Try.prog) (t := 3))) k0
 obtain ⟨s1, hs1, hd1⟩ := cut_one (C := C) (i := 1) (by omega)
 rw [hd1] at k1
 obtain ⟨pq, path, pc, rfl, hB1, _⟩ := open_gb (SliceT.h (P := Try.prog) (t := 22)) (IntT.h (P := Try.prog) (t := 5)) (by kernel_rfl) (by kernel_rfl) k1 z1
 obtain ⟨s2, hs2, hd2⟩ := cut_one (C := C) (i := 2) (by omega)
 rw [hd2] at k2
 obtain ⟨vq, val, vc, rfl, hB2, _⟩ := open_gb (SliceT.h (P := Try.prog) (t := 22)) (IntT.h (P := Try.prog) (t := 5)) (by kernel_rfl) (by kernel_rfl) k2 z2
 obtain ⟨g, hg, _⟩ := DataW.trod_bool (by kernel_rfl) k3
 obtain ⟨nx, hnx, hB4⟩ := open_refE k4 z4
 obtain ⟨l5, hel⟩ := trod_elem (ArrayT.h (P := Try.prog) (t := 27)) k5 z5
 rw [show Try.prog.cellsOf 26 = 34 by kernel_rfl] at hel
 rw [show Try.prog.cellsOf 27 = 544 by kernel_rfl] at l5
 have each : ∀ i, i < 16 → ∃ x : RefE, ((((C.drop 38).take 544).drop (i * 34)).take 34) = x.cells ∧ RefEOk W x := fun i hi => by
  obtain ⟨m, d', ps', h1, h2⟩ := hel i hi
  exact open_refE h1 h2
 obtain ⟨f, hf⟩ := Go.Deep.choose_lt each
 refine ⟨⟨z0, pq, path, pc, vq, val, vc, g, nx, (List.range 16).map f⟩, ?_, ⟨hB1, hB2, hB4, by simp, fun x hx => ?_⟩⟩
 ·have h6 := flatMap_cut (k := 34) (n := 16) (C := (C.drop 38).take 544) (f := fun i => (f i).cells) l5 (fun i hi => (hf i hi).1)
  have g6 : C.drop 38 = (C.drop 38).take 544 := (List.take_of_length_le (by rw [List.length_drop]; omega)).symm
  have g5 : C.drop 4 = (C.drop 4).take 34 ++ C.drop 38 := by
   have := (List.take_append_drop 34 (C.drop 4)).symm
   rwa [List.drop_drop] at this
  have st : ∀ i (v : Value), i < C.length → (C.drop i).take 1 = [v] → C.drop i = v :: C.drop (i + 1) := fun i v hi hv => by
   have := (List.take_append_drop 1 (C.drop i)).symm
   rw [hv, List.drop_drop] at this
   exact this
  have f0 := st 0 _ (by omega) e0
  have f1 := st 1 _ (by omega) hd1
  have f2 := st 2 _ (by omega) hd2
  have f3 := st 3 _ (by omega) hg
  rw [List.drop_zero] at f0
  unfold NodE.cells
  rw [f0, f1, f2, f3, g5, hnx, g6, h6, List.flatMap_map]
 ·obtain ⟨i, hi, rfl⟩ := List.mem_map.1 hx
  exact (hf i (List.mem_range.1 hi)).2
theorem open_node {t : TypeId} {r : Reach} {b0 : Nat} {v : Value} {d : DataW H} {ps : List MemPlace} (hv : Value.okWide Try.prog W r b0 29 v) (h : DataW.Trod enc Try.prog W base (fun _ => true) held 29 v d ps) (hz : (DataW.weights Try.prog 29 d).all (· ≤ reachBytes) = true) :
  ∃ e : NodE, v = .agg e.cells.toArray ∧ NodEOk W e := by
 obtain ⟨cs, rfl⟩ : ∃ cs, v = .agg cs := by
  have hrow : rowT Try.prog 29 = some true := by kernel_rfl
  unfold rowT at hrow
  cases hu : Try.prog.underlying 29 with
  | none => rw [hu] at hrow; simp at hrow
  | some dd =>
   rw [hu] at hrow
   unfold Value.okWide at hv
   rw [hu] at hv
   cases dd <;> first | (obtain ⟨cs, h1, _⟩ := hv; exact ⟨cs, h1⟩) | simp at hrow
 obtain ⟨fuel, h⟩ := h
 have hc : (Value.agg cs).cells.toList = cs.toList := by simp [Value.cells]
 rw [hc] at h
 obtain ⟨e, he, hE⟩ := open_nodE h hz
 exact ⟨e, by rw [← he], hE⟩
end
end Go.Proofs.Ytabpegdalmagpaa
/- Dla: sha's tables at a law's beginning; what the machine is told holds. By this project. -/
set_option maxRecDepth 100000
namespace Go.Proofs.Ytabpegdalmagpaa
open Go.ChangeShapes Go.WideShapes Go.ChangeAt Go.RowKit Go.Extern.Stop
theorem kxD_ok (n : Nat) : CallOk Try.prog (vcall kxD.C kxD.ext kxD.extd n) := vcall_ok0 apExt_ok extd0_ok n
/- Nrw: what the rows of the laws of node share: no variables, arguments with nodes. By this project. -/
theorem nOwn : ownKnob Try.prog.godebug = none := by kernel_rfl
theorem nLaidOut : laidOutB Try.prog = true := by kernel_rfl
theorem no_g {W : World} : ∀ x ∈ ([] : Gs), GOk W x := fun x hx => by simp at hx
theorem no_nb : ∀ x ∈ ([] : Gs), x.2.1.all notByte = true := fun x hx => by simp at hx
def zRefL : List Value := .int .i64 0 :: (List.replicate 32 (.int .u8 0) ++ [.slice none 0 0])
def zNodeV : Value := .agg (.int .i64 0 :: .slice none 0 0 :: .slice none 0 0 :: .bool false :: (List.replicate 17 zRefL).flatten).toArray
theorem open_bytes {H : Type} {enc : TypeId × Value → H} {W : World} {base : Nat} {held : Bool} {r : Reach} {b0 : Nat} {v : Value} {d : DataW H} {ps : List MemPlace} (hv : Value.okWide Try.prog W r b0 22 v) (h : DataW.Trod enc Try.prog W base (fun _ => true) held 22 v d ps) (hz : (DataW.weights Try.prog 22 d).all (· ≤ reachBytes) = true) :
  ∃ (q : GV) (xs : List UInt8) (c : Nat), v = .slice q.A xs.length c ∧ BOk W q xs c ∧ xs.length ≤ 140737488355328 := by
 obtain ⟨A, m, c, rfl⟩ := okWide_slice (SliceT.h (P := Try.prog) (t := 22)) hv
 obtain ⟨fuel, h⟩ := h
 have hc : (Value.slice A m c).cells.toList = [Value.slice A m c] := by simp [Value.cells]
 rw [hc] at h
 exact open_gb (SliceT.h (P := Try.prog) (t := 22)) (IntT.h (P := Try.prog) (t := 5)) (by kernel_rfl) (by kernel_rfl) h hz
end Go.Proofs.Ytabpegdalmagpaa
/- Nw7: refOf, branchOf, shortOf and Decode of node, by the program. By this project. -/
set_option maxRecDepth 100000
namespace Go.Proofs.Ytabpegdalmagpaa
open Go.RowKit Go.Extern.Stop
theorem ref_put {h : List V} (hh : h.length = 32) : putAllV zFC [(0, [.i .i64 1]), (1, h)] = .i .i64 1 :: (h ++ [.sl none 0 0 false]) := by
 have e : putAllV zFC [(0, [.i .i64 1]), (1, h)] = overV (.i .i64 1 :: zFC.drop 1) 1 h := rfl
 have e2 : (zFC.drop 1).drop 32 = [.sl none 0 0 false] := rfl
 rw [e]
 generalize zFC.drop 1 = z at e2
 unfold overV
 rw [hh]
 show .i .i64 1 :: (h ++ z.drop 32) = _
 rw [e2]
set_option maxHeartbeats 8000000 in
theorem refof_d {P : PQ} {t : It} {v : List V} {hp : Hp} (ho : OkH hp) (ht : ItP P t v) (hP : ∀ A cs, P A cs → RB ⟨hp, []⟩ A cs) (hl : (enc t).length ≤ 1048576) (hd : depth t ≤ 80) :
  Fn kxD 54 [.agg v] hp [] fun q N => match refOfS t with
   | none => ∃ u, q = .v u ∧ u = .tup [.agg zFC, .b false]
   | some r => ∃ u, q = .v u ∧ ∃ w, u = .tup [.agg w, .b true] ∧ RefP (snP N) r w := by
 have hR := itP_r hP _ _ ht
 refine Fn.dropC ?_
 cases t with
 | list l =>
  have e : refOfS (.list l) = some ⟨2, zH32, enc (.list l)⟩ := by rw [refOfS, if_pos ⟨hl, hd⟩]
  rw [e]
  rw [ItP] at ht
  obtain ⟨A, c, o, vs, rfl, _, _⟩ := ht
  refine fn_of_w (T := []) ho.sv (fun _ => rfl) (fn := Try.f54) (by kernel_rfl) rfl rfl ?_
  refine wo ?_
  first | (apply p_op; exact (vwant_n rfl); iterate 4 exact rfl) | (apply d_op; exact (vwant_n rfl); exact rfl; exact noRd rfl; decide +kernel; (iterate 3 exact rfl); rotate_left) | (apply p_op; exact (vwant_g rfl rfl rfl); iterate 4 exact rfl) | (apply d_op; exact (vwant_g rfl rfl rfl); exact rfl; exact noRd rfl; decide +kernel; (iterate 3 exact rfl); rotate_left)
  refine ev_box rfl rfl fun bx => ⟨_, rfl, ?_⟩
  try (case hok => first | exact rdOk_nil | exact rdOk_b (by decide +kernel) | exact rdOk_c | (repeat (first | exact rdOk_e | refine rdOk_d (by decide +kernel) ?_ | refine rdOk_n ?_)))
  first | (apply p_op; exact (vwant_n rfl); iterate 4 exact rfl) | (apply d_op; exact (vwant_n rfl); exact rfl; exact noRd rfl; decide +kernel; (iterate 3 exact rfl); rotate_left) | (apply p_op; exact (vwant_g rfl rfl rfl); iterate 4 exact rfl) | (apply d_op; exact (vwant_g rfl rfl rfl); exact rfl; exact noRd rfl; decide +kernel; (iterate 3 exact rfl); rotate_left)
  refine e_alloc (zc := zFC) rfl fun b2 => ⟨_, rfl, ?_⟩
  try (case hok => first | exact rdOk_nil | exact rdOk_b (by decide +kernel) | exact rdOk_c | (repeat (first | exact rdOk_e | refine rdOk_d (by decide +kernel) ?_ | refine rdOk_n ?_)))
  refine wo ?_
  first | refine zX (m_ldln (s := 2) (cs := [.b true, .sl none 0 0 false, .sl A l.length c o]) rfl rfl rfl) ?_ | refine yX (m_ldln (s := 2) (cs := [.b true, .sl none 0 0 false, .sl A l.length c o]) rfl rfl rfl) ?_
  first | (apply p_callY []; exact (vwant_n rfl); iterate 4 exact rfl) | (apply d_callY []; exact (vwant_n rfl); decide +kernel; (iterate 4 exact rfl)) | (apply p_callY []; exact (vwant_g rfl rfl rfl); iterate 4 exact rfl) | (apply d_callY []; exact (vwant_g rfl rfl rfl); decide +kernel; (iterate 4 exact rfl))
  try (case hok => first | exact rdOk_nil | exact rdOk_b (by decide +kernel) | exact rdOk_c)
  case hC => exact (fun hp' hs htt => encode_d (t := .list l) hs.ok (hR.give0 hs) hd hl)
  rintro u N ⟨w, rfl, hw⟩
  obtain ⟨A1, o1, rfl⟩ := hw.sl
  refine wo ?_
  first | (apply wn; iterate 5 exact rfl) | (apply dn; iterate 5 exact rfl) | (apply wg; iterate 7 exact rfl) | (apply dg; iterate 7 exact rfl)
  refine p_buildS (C := refC ⟨2, zH32, enc (.list l)⟩ (.sl A1 (enc (.list l)).length (enc (.list l)).length o1)) (.cons rfl rfl rfl rfl (Nat.le_of_ble_eq_true rfl) (.cons rfl rfl rfl rfl (Nat.le_of_ble_eq_true rfl) .nil)) rfl
  refine wo ?_
  first | (apply wm; iterate 5 exact rfl) | (apply dm; iterate 6 exact rfl) | (apply wmg; iterate 7 exact rfl) | (apply dmg; iterate 8 exact rfl)
  refine mv_int (v := .b true) rfl rfl (vi_eqlT (rfl))
  first | (apply p_do; exact (vwant_n rfl); exact rfl; exact rfl) | (apply d_do; exact (vwant_n rfl); exact rfl; exact noRd rfl; decide +kernel; exact rfl; rotate_left) | (apply p_do; exact (vwant_g rfl rfl rfl); exact rfl; exact rfl) | (apply d_do; exact (vwant_g rfl rfl rfl); exact rfl; exact noRd rfl; decide +kernel; exact rfl; rotate_left)
  refine e_stn (C' := refC ⟨2, zH32, enc (.list l)⟩ (.sl A1 (enc (.list l)).length (enc (.list l)).length o1)) rfl rfl (by simp) rfl (Nat.le_of_ble_eq_true rfl) rfl ⟨_, rfl, ?_⟩
  try (case hok => first | exact rdOk_nil | exact rdOk_b (by decide +kernel) | exact rdOk_c | (repeat (first | exact rdOk_e | refine rdOk_d (by decide +kernel) ?_ | refine rdOk_n ?_)))
  refine wo ?_
  exact w_ret (wend_ret (vres2 (rv_cell rfl rfl) (rv_tmp rfl)) ⟨N, cle, _, rfl, _, rfl, rfl, A1, _, o1, rfl, hw.sn fun p hp => hp, Nat.le_refl _⟩)
 | str bs =>
  rw [ItP] at ht
  obtain ⟨A, c, o, rfl, hA, hc⟩ := ht
  have hB := hP _ _ hA
  refine fn_of_w (T := []) ho.sv (fun _ => rfl) (fn := Try.f54) (by kernel_rfl) rfl rfl ?_
  refine wo ?_
  first | (apply p_op; exact (vwant_n rfl); iterate 4 exact rfl) | (apply d_op; exact (vwant_n rfl); exact rfl; exact noRd rfl; decide +kernel; (iterate 3 exact rfl); rotate_left) | (apply p_op; exact (vwant_g rfl rfl rfl); iterate 4 exact rfl) | (apply d_op; exact (vwant_g rfl rfl rfl); exact rfl; exact noRd rfl; decide +kernel; (iterate 3 exact rfl); rotate_left)
  refine ev_box rfl rfl fun bx => ⟨_, rfl, ?_⟩
  try (case hok => first | exact rdOk_nil | exact rdOk_b (by decide +kernel) | exact rdOk_c | (repeat (first | exact rdOk_e | refine rdOk_d (by decide +kernel) ?_ | refine rdOk_n ?_)))
  first | (apply p_op; exact (vwant_n rfl); iterate 4 exact rfl) | (apply d_op; exact (vwant_n rfl); exact rfl; exact noRd rfl; decide +kernel; (iterate 3 exact rfl); rotate_left) | (apply p_op; exact (vwant_g rfl rfl rfl); iterate 4 exact rfl) | (apply d_op; exact (vwant_g rfl rfl rfl); exact rfl; exact noRd rfl; decide +kernel; (iterate 3 exact rfl); rotate_left)
  refine e_alloc (zc := zFC) rfl fun b2 => ⟨_, rfl, ?_⟩
  try (case hok => first | exact rdOk_nil | exact rdOk_b (by decide +kernel) | exact rdOk_c | (repeat (first | exact rdOk_e | refine rdOk_d (by decide +kernel) ?_ | refine rdOk_n ?_)))
  refine wo ?_
  by_cases g0 : bs.length = 0
  ·have e : refOfS (.str bs) = some zRef := by rw [refOfS, if_pos g0]
   rw [e]
   first | (apply wm; iterate 5 exact rfl) | (apply dm; iterate 6 exact rfl) | (apply wmg; iterate 7 exact rfl) | (apply dmg; iterate 8 exact rfl)
   refine mv_int (v := .b true) rfl rfl (vi_eqlT (by omega))
   refine wo ?_
   first | (apply wn; iterate 5 exact rfl) | (apply dn; iterate 5 exact rfl) | (apply wg; iterate 7 exact rfl) | (apply dg; iterate 7 exact rfl)
   refine p_buildS (C := zFC) .nil (by rfl)
   first | (apply p_do; exact (vwant_n rfl); exact rfl; exact rfl) | (apply d_do; exact (vwant_n rfl); exact rfl; exact noRd rfl; decide +kernel; exact rfl; rotate_left) | (apply p_do; exact (vwant_g rfl rfl rfl); exact rfl; exact rfl) | (apply d_do; exact (vwant_g rfl rfl rfl); exact rfl; exact noRd rfl; decide +kernel; exact rfl; rotate_left)
   refine e_stn (C' := zFC) rfl rfl (ne_of_len zFC_len (by decide)) zFC_len (Nat.le_of_eq zFC_len.symm) rfl ⟨_, rfl, ?_⟩
   try (case hok => first | exact rdOk_nil | exact rdOk_b (by decide +kernel) | exact rdOk_c | (repeat (first | exact rdOk_e | refine rdOk_d (by decide +kernel) ?_ | refine rdOk_n ?_)))
   refine wo ?_
   exact w_ret (wend_ret (vres2 (rv_cell rfl rfl) (rv_tmp rfl)) ⟨[], cle, _, rfl, _, rfl, zFC_p _ Sn.nil⟩)
  first | (apply wm; iterate 5 exact rfl) | (apply dm; iterate 6 exact rfl) | (apply wmg; iterate 7 exact rfl) | (apply dmg; iterate 8 exact rfl)
  refine mv_int (v := .b false) rfl rfl (vi_eqlF (by omega))
  refine wo ?_
  by_cases g : bs.length = 32
  ·have e : refOfS (.str bs) = some ⟨1, bs, []⟩ := by rw [refOfS, if_neg g0, if_pos g]
   rw [e]
   obtain ⟨ba, oa, rfl⟩ := rb_spot hB (by omega)
   have h32 : (bs.map byV).length = 32 := by rw [List.length_map, g]
   first | (apply wm; iterate 5 exact rfl) | (apply dm; iterate 6 exact rfl) | (apply wmg; iterate 7 exact rfl) | (apply dmg; iterate 8 exact rfl)
   refine mv_int (v := .b true) rfl rfl (vi_eqlT (by omega))
   refine wo ?_
   first | (apply wn; iterate 5 exact rfl) | (apply dn; iterate 5 exact rfl) | (apply wg; iterate 7 exact rfl) | (apply dg; iterate 7 exact rfl)
   refine pv_s2a rfl rfl (by omega) (by decide)
   first | (apply wm; iterate 5 exact rfl) | (apply dm; iterate 6 exact rfl) | (apply wmg; iterate 7 exact rfl) | (apply dmg; iterate 8 exact rfl)
   refine m_ldnN (j := 0) (s := 31) (vs := bs.map byV) rfl hB.1 hB.2 rfl (by rw [List.drop_zero]; exact List.take_of_length_le (Nat.le_of_eq h32)) h32
   first | (apply wn; iterate 5 exact rfl) | (apply dn; iterate 5 exact rfl) | (apply wg; iterate 7 exact rfl) | (apply dg; iterate 7 exact rfl)
   refine p_buildS (C := refC ⟨1, bs, []⟩ (.sl none 0 0 false)) (.cons rfl rfl rfl rfl (Nat.le_of_ble_eq_true rfl) (.cons rfl rfl rfl h32 (Nat.le_of_ble_eq_true rfl) .nil)) (ref_put h32)
   first | (apply p_do; exact (vwant_n rfl); exact rfl; exact rfl) | (apply d_do; exact (vwant_n rfl); exact rfl; exact noRd rfl; decide +kernel; exact rfl; rotate_left) | (apply p_do; exact (vwant_g rfl rfl rfl); exact rfl; exact rfl) | (apply d_do; exact (vwant_g rfl rfl rfl); exact rfl; exact noRd rfl; decide +kernel; exact rfl; rotate_left)
   refine e_stn (C' := refC ⟨1, bs, []⟩ (.sl none 0 0 false)) rfl rfl (by simp) (refC_len g) (Nat.le_of_eq zFC_len.symm) (overV_all ((refC_len g).trans zFC_len.symm)) ⟨_, rfl, ?_⟩
   try (case hok => first | exact rdOk_nil | exact rdOk_b (by decide +kernel) | exact rdOk_c | (repeat (first | exact rdOk_e | refine rdOk_d (by decide +kernel) ?_ | refine rdOk_n ?_)))
   refine wo ?_
   exact w_ret (wend_ret (vres2 (rv_cell rfl (refC_len g)) (rv_tmp rfl)) ⟨[], cle, _, rfl, _, rfl, g, none, 0, false, rfl, Sn.nil, Nat.le_refl _⟩)
  ·have e : refOfS (.str bs) = none := by rw [refOfS, if_neg g0, if_neg g]
   rw [e]
   first | (apply wm; iterate 5 exact rfl) | (apply dm; iterate 6 exact rfl) | (apply wmg; iterate 7 exact rfl) | (apply dmg; iterate 8 exact rfl)
   refine mv_int (v := .b false) rfl rfl (vi_eqlF (by omega))
   refine wo ?_
   first | (apply wn; iterate 5 exact rfl) | (apply dn; iterate 5 exact rfl) | (apply wg; iterate 7 exact rfl) | (apply dg; iterate 7 exact rfl)
   refine p_buildS (C := zFC) .nil (by rfl)
   first | (apply p_do; exact (vwant_n rfl); exact rfl; exact rfl) | (apply d_do; exact (vwant_n rfl); exact rfl; exact noRd rfl; decide +kernel; exact rfl; rotate_left) | (apply p_do; exact (vwant_g rfl rfl rfl); exact rfl; exact rfl) | (apply d_do; exact (vwant_g rfl rfl rfl); exact rfl; exact noRd rfl; decide +kernel; exact rfl; rotate_left)
   refine e_stn (C' := zFC) rfl rfl (ne_of_len zFC_len (by decide)) zFC_len (Nat.le_of_eq zFC_len.symm) rfl ⟨_, rfl, ?_⟩
   try (case hok => first | exact rdOk_nil | exact rdOk_b (by decide +kernel) | exact rdOk_c | (repeat (first | exact rdOk_e | refine rdOk_d (by decide +kernel) ?_ | refine rdOk_n ?_)))
   refine wo ?_
   exact w_ret (wend_ret (vres2 (rv_cell rfl rfl) (rv_tmp rfl)) ⟨[], cle, _, rfl, rfl⟩)
theorem RefofNo {P : PQ} {t : It} {v : List V} {hp : Hp} (h0 : refOfS t = none) (ho : OkH hp) (ht : ItP P t v) (hP : ∀ A cs, P A cs → RB ⟨hp, []⟩ A cs) (hl : (enc t).length ≤ 1048576) (hd : depth t ≤ 80) :
  Fn kxD 54 [.agg v] hp [] fun q N => ∃ u, q = .v u ∧ u = .tup [.agg zFC, .b false] := by
 have := refof_d ho ht hP hl hd
 rw [h0] at this
 exact this
theorem RefofOk {P : PQ} {t : It} {r : RefS} {v : List V} {hp : Hp} (h0 : refOfS t = some r) (ho : OkH hp) (ht : ItP P t v) (hP : ∀ A cs, P A cs → RB ⟨hp, []⟩ A cs) (hl : (enc t).length ≤ 1048576) (hd : depth t ≤ 80) :
  Fn kxD 54 [.agg v] hp [] fun q N => ∃ u, q = .v u ∧ ∃ w, u = .tup [.agg w, .b true] ∧ RefP (snP N) r w := by
 have := refof_d ho ht hP hl hd
 rw [h0] at this
 exact this
theorem overV_app {a b w : List V} {o : Nat} : overV (a ++ b) (a.length + o) w = a ++ overV b o w := by
 unfold overV
 rw [List.take_append, List.take_of_length_le (by omega), Nat.add_sub_cancel_left, show a.length + o + w.length = a.length + (o + w.length) by omega, List.drop_append, List.drop_of_length_le (by omega), List.nil_append, Nat.add_sub_cancel_left]
 simp
theorem flat_put {k : Nat} : ∀ {ks : List (List V)} {i : Nat} {w : List V}, (∀ x ∈ ks, x.length = k) → i < ks.length → w.length = k → overV ks.flatten (i * k) w = (ks.set i w).flatten
 | [], i, w, _, hi, _ => by simp at hi
 | x :: r, 0, w, h, _, hw => by
  have hx := h x List.mem_cons_self
  rw [List.set_cons_zero, List.flatten_cons, List.flatten_cons, Nat.zero_mul]
  unfold overV
  rw [List.take_zero, List.nil_append, Nat.zero_add, hw, List.drop_append, List.drop_of_length_le (by omega), List.nil_append, hx, Nat.sub_self, List.drop_zero]
 | x :: r, i + 1, w, h, hi, hw => by
  have hx := h x List.mem_cons_self
  rw [List.set_cons_succ, List.flatten_cons, List.flatten_cons, Nat.succ_mul, Nat.add_comm, ← hx, overV_app]
  rw [hx, flat_put (fun y hy => h y (List.mem_cons_of_mem _ hy)) (by simpa using hi) hw]
theorem nodC_putk {n : NodS} {p v : V} {nx w : List V} {ks : List (List V)} {i : Nat} (h : nx.length = 34) (hk : ∀ x ∈ ks, x.length = 34) (hi : i < ks.length) (hw : w.length = 34) : overV (nodC n p v nx ks.flatten) (0 + 38 + i * 34) w = nodC n p v nx (ks.set i w).flatten := by
 have e : nodC n p v nx ks.flatten = (.i .i64 n.k :: p :: v :: .b n.full :: nx) ++ ks.flatten := rfl
 have e2 : nodC n p v nx (ks.set i w).flatten = (.i .i64 n.k :: p :: v :: .b n.full :: nx) ++ (ks.set i w).flatten := rfl
 rw [e, e2, ← flat_put hk hi hw, show 0 + 38 + i * 34 = (.i .i64 n.k :: p :: v :: .b n.full :: nx).length + i * 34 by simp [h], overV_app]
theorem refsP_snoc {P : PP} {r : RefS} {w : List V} (k : RefP P r w) : ∀ {l : List RefS} {ks : List (List V)}, RefsP P l ks → RefsP P (l ++ [r]) (ks ++ [w])
 | [], ks, h => by
  rw [RefsP] at h
  subst h
  exact ⟨w, [], rfl, k, rfl⟩
 | x :: l, ks, h => by
  obtain ⟨y, ws, rfl, h1, h2⟩ := h
  exact ⟨y, ws ++ [w], rfl, h1, refsP_snoc k h2⟩
theorem refsP_rep {P : PP} (h : P none 0 false []) : ∀ n, RefsP P (List.replicate n zRef) (List.replicate n zFC)
 | 0 => rfl
 | n + 1 => ⟨zFC, List.replicate n zFC, rfl, zFC_p P h, refsP_rep h n⟩
theorem refsOfS_snoc : ∀ {l : List It} {ks : List RefS} {t : It} {r : RefS}, refsOfS l = some ks → refOfS t = some r → refsOfS (l ++ [t]) = some (ks ++ [r])
 | [], ks, t, r, h, k => by
  rw [refsOfS] at h
  obtain rfl := Option.some.inj h
  rw [List.nil_append, refsOfS, k, refsOfS]
  rfl
 | x :: l, ks, t, r, h, k => by
  rw [refsOfS] at h
  cases h1 : refOfS x with
  | none => rw [h1] at h; simp at h
  | some y =>
   cases h2 : refsOfS l with
   | none => rw [h1, h2] at h; simp at h
   | some z =>
    rw [h1, h2] at h
    obtain rfl := Option.some.inj h
    rw [List.cons_append, refsOfS, h1, refsOfS_snoc h2 k]
    rfl
theorem refsOfS_none : ∀ {l : List It} {t : It}, t ∈ l → refOfS t = none → refsOfS l = none
 | x :: l, t, h, k => by
  rw [refsOfS]
  rcases List.mem_cons.1 h with rfl | h
  ·rw [k]
  ·rw [refsOfS_none h k]
   cases refOfS x <;> rfl
theorem set_take {α : Type} {l : List α} {i : Nat} {x : α} (h : i < l.length) : (l.set i x).take (i + 1) = l.take i ++ [x] := by
 rw [List.take_succ_eq_append_getElem (by rw [List.length_set]; exact h), List.take_set_of_le (Nat.le_refl _), List.getElem_set_self]
def brN : NodS := ⟨3, [], [], false, zRef, []⟩
set_option maxHeartbeats 16000000 in
theorem branchof_d {P : PQ} {l : List It} {A : Option (Nat × Nat)} {c : Nat} {o : Bool} {vs : List (List V)} {hp : Hp} (ho : OkH hp) (hA : P A vs.flatten) (hvs : ItPs P l vs) (hP : ∀ A cs, P A cs → RB ⟨hp, []⟩ A cs) (h0 : P none []) (h17 : l.length = 17) (hl : ∀ t ∈ l, (enc t).length ≤ 1048576 ∧ depth t ≤ 80) :
  Fn kxD 30 [.sl A l.length c o] hp [] fun q N => match shapeS l with
   | none => ∃ u, q = .v u ∧ ∃ w, u = .tup [.agg w, .b false] ∧ w.length = 582
   | some n => ∃ u, q = .v u ∧ ∃ w, u = .tup [.agg w, .b true] ∧ NodP (fun A _ _ cs => P A cs ∨ Sn N A cs) n w := by
 have hsh : shapeS l = match refsOfS (l.take 16), (l[16]? : Option It) with
  | some ks, some (It.str v) => some ⟨3, [], v, decide (0 < v.length), zRef, ks⟩
  | _, _ => none := by unfold shapeS; rw [if_neg (by omega), if_pos h17]; rfl
 have hB := hP _ _ hA
 have hlen : ∀ (v : V) (ks : List (List V)), ks.length = 16 → (∀ x ∈ ks, x.length = 34) → ∀ m : NodS, (nodC m (.sl none 0 0 false) v zFC ks.flatten).length = 582 := fun v ks h1 h2 m => by
  have := flatK_len h2
  rw [h1] at this
  simp only [List.length_cons, List.length_append, zFC_len, this]
 refine Fn.dropC ?_
 refine fn_of_w (T := []) ho.sv (fun _ => rfl) (fn := Try.f30) (by kernel_rfl) rfl rfl ?_
 refine wo ?_
 first | (apply p_op; exact (vwant_n rfl); iterate 4 exact rfl) | (apply d_op; exact (vwant_n rfl); exact rfl; exact noRd rfl; decide +kernel; (iterate 3 exact rfl); rotate_left) | (apply p_op; exact (vwant_g rfl rfl rfl); iterate 4 exact rfl) | (apply d_op; exact (vwant_g rfl rfl rfl); exact rfl; exact noRd rfl; decide +kernel; (iterate 3 exact rfl); rotate_left)
 refine e_alloc (zc := zNC) (by kernel_rfl) fun b2 => ⟨_, rfl, ?_⟩
 try (case hok => first | exact rdOk_nil | exact rdOk_b (by decide +kernel) | exact rdOk_c | (repeat (first | exact rdOk_e | refine rdOk_d (by decide +kernel) ?_ | refine rdOk_n ?_)))
 refine wo ?_
 first | (apply wn; iterate 5 exact rfl) | (apply dn; iterate 5 exact rfl) | (apply wg; iterate 7 exact rfl) | (apply dg; iterate 7 exact rfl)
 refine p_buildS (C := nodC brN (.sl none 0 0 false) (.sl none 0 0 false) zFC (List.replicate 16 zFC).flatten) (.cons rfl rfl rfl rfl (Nat.le_of_ble_eq_true rfl) .nil) (by kernel_rfl)
 first | (apply p_op; exact (vwant_n rfl); iterate 4 exact rfl) | (apply d_op; exact (vwant_n rfl); exact rfl; exact noRd rfl; decide +kernel; (iterate 3 exact rfl); rotate_left) | (apply p_op; exact (vwant_g rfl rfl rfl); iterate 4 exact rfl) | (apply d_op; exact (vwant_g rfl rfl rfl); exact rfl; exact noRd rfl; decide +kernel; (iterate 3 exact rfl); rotate_left)
 refine e_alloc (zc := zNC) (by kernel_rfl) fun b4 => ⟨_, rfl, ?_⟩
 try (case hok => first | exact rdOk_nil | exact rdOk_b (by decide +kernel) | exact rdOk_c | (repeat (first | exact rdOk_e | refine rdOk_d (by decide +kernel) ?_ | refine rdOk_n ?_)))
 first | (apply p_do; exact (vwant_n rfl); exact rfl; exact rfl) | (apply d_do; exact (vwant_n rfl); exact rfl; exact noRd rfl; decide +kernel; exact rfl; rotate_left) | (apply p_do; exact (vwant_g rfl rfl rfl); exact rfl; exact rfl) | (apply d_do; exact (vwant_g rfl rfl rfl); exact rfl; exact noRd rfl; decide +kernel; exact rfl; rotate_left)
 refine e_stn (C' := nodC brN (.sl none 0 0 false) (.sl none 0 0 false) zFC (List.replicate 16 zFC).flatten) rfl rfl (List.cons_ne_nil _ _) (by kernel_rfl) (Nat.le_of_eq zNC_len.symm) (overV_all (by kernel_rfl)) ⟨_, rfl, ?_⟩
 try (case hok => first | exact rdOk_nil | exact rdOk_b (by decide +kernel) | exact rdOk_c | (repeat (first | exact rdOk_e | refine rdOk_d (by decide +kernel) ?_ | refine rdOk_n ?_)))
 refine wo ?_
 iterate 4 ((try refine w_seq ?_); refine wo ?_)
 refine w_loop (ι := Nat × List (List V) × HV × List RefS) (fun s => [(10, .i .i64 (s.1 : Nat)), (4, .p (some (b4, 0))), (2, .p (some (b2, 0))), (0, .sl A l.length c o)]) (fun s => (some b4, cellsO (nodC brN (.sl none 0 0 false) (.sl none 0 0 false) zFC s.2.1.flatten) 29) :: (some b2, cellsO zNC 29) :: s.2.2.1) (fun s => s.1 ≤ 16 ∧ s.2.1.length = 16 ∧ (∀ x ∈ s.2.1, x.length = 34) ∧ refsOfS (l.take s.1) = some s.2.2.2 ∧ RefsP (snP s.2.2.1) s.2.2.2 (s.2.1.take s.1)) (fun s => 16 - s.1) (0, List.replicate 16 zFC, [], []) ⟨Nat.zero_le _, rfl, fun x hx => by rw [List.eq_of_mem_replicate hx]; rfl, by rw [List.take_zero, refsOfS], rfl⟩ ⟨rfl, rfl, rfl, rfl, trivial⟩ (fun hp h => h) ?_
 intro ⟨i, ks, X, rs⟩ ⟨hi, hk16, hk34, hrs, hX⟩
 dsimp only at hi hk16 hk34 hrs hX ⊢
 refine wo ?_
 by_cases g : i < 16
 ·obtain ⟨vi, hvi, h3, hti⟩ := itPs_row (i := i) (t := l[i]) hvs (List.getElem?_eq_getElem (by omega))
  obtain ⟨bA, oA, rfl⟩ := rb_some3 hB hvi h3
  have hne := ne_of_len h3 (by decide)
  have hsn : l.take (i + 1) = l.take i ++ [l[i]] := List.take_succ_eq_append_getElem (by omega)
  have hmem : l[i] ∈ l.take 16 := by
   rw [List.mem_take_iff_getElem]
   exact ⟨i, by omega, rfl⟩
  obtain ⟨hl1, hl2⟩ := hl l[i] (List.getElem_mem (by omega))
  generalize l[i] = t at *
  first | (apply wm; iterate 5 exact rfl) | (apply dm; iterate 6 exact rfl) | (apply wmg; iterate 7 exact rfl) | (apply dmg; iterate 8 exact rfl)
  refine mv_int (v := .b true) rfl rfl (vi_lssT (by omega))
  refine wo ?_
  first | (apply wn; iterate 5 exact rfl) | (apply dn; iterate 5 exact rfl) | (apply wg; iterate 7 exact rfl) | (apply dg; iterate 7 exact rfl)
  refine p_ian rfl rfl (show i < l.length by omega)
  first | (apply wm; iterate 5 exact rfl) | (apply dm; iterate 6 exact rfl) | (apply wmg; iterate 7 exact rfl) | (apply dmg; iterate 8 exact rfl)
  refine m_ldnN (j := i * 3) (s := 2) rfl hB.1 hB.2 rfl hvi h3
  cases hr : refOfS t with
  | none =>
   first | (apply p_callY []; exact (vwant_n rfl); iterate 4 exact rfl) | (apply d_callY []; exact (vwant_n rfl); decide +kernel; (iterate 4 exact rfl)) | (apply p_callY []; exact (vwant_g rfl rfl rfl); iterate 4 exact rfl) | (apply d_callY []; exact (vwant_g rfl rfl rfl); decide +kernel; (iterate 4 exact rfl))
   try (case hok => first | exact rdOk_nil | exact rdOk_b (by decide +kernel) | exact rdOk_c)
   case hC => exact (fun hp' hs ht => RefofNo hr hs.ok hti (fun A cs h => (hP A cs h).give0 hs) hl1 hl2)
   rintro u N rfl
   refine wo ?_
   first | (apply p_op; exact (vwant_n rfl); iterate 4 exact rfl) | (apply d_op; exact (vwant_n rfl); exact rfl; exact noRd rfl; decide +kernel; (iterate 3 exact rfl); rotate_left) | (apply p_op; exact (vwant_g rfl rfl rfl); iterate 4 exact rfl) | (apply d_op; exact (vwant_g rfl rfl rfl); exact rfl; exact noRd rfl; decide +kernel; (iterate 3 exact rfl); rotate_left)
   refine e_alloc (zc := zFC) rfl fun b6 => ⟨_, rfl, ?_⟩
   try (case hok => first | exact rdOk_nil | exact rdOk_b (by decide +kernel) | exact rdOk_c | (repeat (first | exact rdOk_e | refine rdOk_d (by decide +kernel) ?_ | refine rdOk_n ?_)))
   first | (apply p_do; exact (vwant_n rfl); exact rfl; exact rfl) | (apply d_do; exact (vwant_n rfl); exact rfl; exact noRd rfl; decide +kernel; exact rfl; rotate_left) | (apply p_do; exact (vwant_g rfl rfl rfl); exact rfl; exact rfl) | (apply d_do; exact (vwant_g rfl rfl rfl); exact rfl; exact noRd rfl; decide +kernel; exact rfl; rotate_left)
   refine e_stn (C' := zFC) rfl rfl (ne_of_len zFC_len (by decide)) zFC_len (Nat.le_of_eq zFC_len.symm) rfl ⟨_, rfl, ?_⟩
   try (case hok => first | exact rdOk_nil | exact rdOk_b (by decide +kernel) | exact rdOk_c | (repeat (first | exact rdOk_e | refine rdOk_d (by decide +kernel) ?_ | refine rdOk_n ?_)))
   refine wo ?_
   first | (apply wn; iterate 5 exact rfl) | (apply dn; iterate 5 exact rfl) | (apply wg; iterate 7 exact rfl) | (apply dg; iterate 7 exact rfl)
   refine p_buildS (C := zNC) .nil (by kernel_rfl)
   first | (apply p_do; exact (vwant_n rfl); exact rfl; exact rfl) | (apply d_do; exact (vwant_n rfl); exact rfl; exact noRd rfl; decide +kernel; exact rfl; rotate_left) | (apply p_do; exact (vwant_g rfl rfl rfl); exact rfl; exact rfl) | (apply d_do; exact (vwant_g rfl rfl rfl); exact rfl; exact noRd rfl; decide +kernel; exact rfl; rotate_left)
   refine e_stn (C' := zNC) rfl rfl zNC_ne zNC_len (Nat.le_of_eq zNC_len.symm) (overV_all rfl) ⟨_, rfl, ?_⟩
   try (case hok => first | exact rdOk_nil | exact rdOk_b (by decide +kernel) | exact rdOk_c | (repeat (first | exact rdOk_e | refine rdOk_d (by decide +kernel) ?_ | refine rdOk_n ?_)))
   refine wo ?_
   exact w_ret (wend_ret (vres2 (rv_cell rfl zNC_len) (rv_tmp rfl)) ⟨[], cle, by rw [hsh, refsOfS_none hmem hr]; exact ⟨_, rfl, _, rfl, zNC_len⟩⟩)
  | some r =>
   first | (apply p_callY []; exact (vwant_n rfl); iterate 4 exact rfl) | (apply d_callY []; exact (vwant_n rfl); decide +kernel; (iterate 4 exact rfl)) | (apply p_callY []; exact (vwant_g rfl rfl rfl); iterate 4 exact rfl) | (apply d_callY []; exact (vwant_g rfl rfl rfl); decide +kernel; (iterate 4 exact rfl))
   try (case hok => first | exact rdOk_nil | exact rdOk_b (by decide +kernel) | exact rdOk_c)
   case hC => exact (fun hp' hs ht => RefofOk hr hs.ok hti (fun A cs h => (hP A cs h).give0 hs) hl1 hl2)
   rintro u N ⟨wr, rfl, hwr⟩
   have hwl := hwr.len
   refine wo ?_
   first | (apply p_op; exact (vwant_n rfl); iterate 4 exact rfl) | (apply d_op; exact (vwant_n rfl); exact rfl; exact noRd rfl; decide +kernel; (iterate 3 exact rfl); rotate_left) | (apply p_op; exact (vwant_g rfl rfl rfl); iterate 4 exact rfl) | (apply d_op; exact (vwant_g rfl rfl rfl); exact rfl; exact noRd rfl; decide +kernel; (iterate 3 exact rfl); rotate_left)
   refine e_alloc (zc := zFC) rfl fun b6 => ⟨_, rfl, ?_⟩
   try (case hok => first | exact rdOk_nil | exact rdOk_b (by decide +kernel) | exact rdOk_c | (repeat (first | exact rdOk_e | refine rdOk_d (by decide +kernel) ?_ | refine rdOk_n ?_)))
   first | (apply p_do; exact (vwant_n rfl); exact rfl; exact rfl) | (apply d_do; exact (vwant_n rfl); exact rfl; exact noRd rfl; decide +kernel; exact rfl; rotate_left) | (apply p_do; exact (vwant_g rfl rfl rfl); exact rfl; exact rfl) | (apply d_do; exact (vwant_g rfl rfl rfl); exact rfl; exact noRd rfl; decide +kernel; exact rfl; rotate_left)
   refine e_stn (C' := wr) rfl rfl (ne_of_len hwl (by decide)) hwl (Nat.le_of_eq zFC_len.symm) (overV_all (hwl.trans zFC_len.symm)) ⟨_, rfl, ?_⟩
   try (case hok => first | exact rdOk_nil | exact rdOk_b (by decide +kernel) | exact rdOk_c | (repeat (first | exact rdOk_e | refine rdOk_d (by decide +kernel) ?_ | refine rdOk_n ?_)))
   refine wo ?_
   first | refine zX (m_ldln (s := 33) (cs := wr) rfl (all_take _ hwl) hwl) ?_ | refine yX (m_ldln (s := 33) (cs := wr) rfl (all_take _ hwl) hwl) ?_
   refine wo ?_
   first | (apply wn; iterate 5 exact rfl) | (apply dn; iterate 5 exact rfl) | (apply wg; iterate 7 exact rfl) | (apply dg; iterate 7 exact rfl)
   refine p_iaan rfl rfl g
   first | (apply p_do; exact (vwant_n rfl); exact rfl; exact rfl) | (apply d_do; exact (vwant_n rfl); exact rfl; exact noRd rfl; decide +kernel; exact rfl; rotate_left) | (apply p_do; exact (vwant_g rfl rfl rfl); exact rfl; exact rfl) | (apply d_do; exact (vwant_g rfl rfl rfl); exact rfl; exact noRd rfl; decide +kernel; exact rfl; rotate_left)
   refine e_stn (C' := nodC brN (.sl none 0 0 false) (.sl none 0 0 false) zFC (ks.set i wr).flatten) rfl rfl (ne_of_len hwl (by decide)) hwl (by rw [hlen _ _ hk16 hk34]; omega) (nodC_putk zFC_len hk34 (by omega) hwl) ⟨_, rfl, ?_⟩
   try (case hok => first | exact rdOk_nil | exact rdOk_b (by decide +kernel) | exact rdOk_c | (repeat (first | exact rdOk_e | refine rdOk_d (by decide +kernel) ?_ | refine rdOk_n ?_)))
   refine wo ?_
   refine ⟨rfl, (i + 1, ks.set i wr, N ++ X, rs ++ [r]), ⟨g, by rw [List.length_set]; exact hk16, fun x hx => ?_, by rw [hsn]; exact refsOfS_snoc hrs hr, ?_⟩, by dsimp only; omega, ⟨rfl, rfl, rfl, rfl, trivial⟩, fun hp h => h.le⟩
   ·rcases List.mem_or_eq_of_mem_set hx with hx | rfl
    ·exact hk34 x hx
    ·exact hwl
   ·dsimp only
    rw [set_take (by omega)]
    exact refsP_snoc (hwr.mono fun A c o cs h => h.mono fun p hp => List.mem_append_left _ hp) (refsP_mono (fun A c o cs h => h.mono fun p hp => List.mem_append_right _ hp) hX)
 first | (apply wm; iterate 5 exact rfl) | (apply dm; iterate 6 exact rfl) | (apply wmg; iterate 7 exact rfl) | (apply dmg; iterate 8 exact rfl)
 refine mv_int (v := .b false) rfl rfl (vi_lssF (by omega))
 refine wo ?_
 refine w_exit ?_
 obtain rfl : i = 16 := by omega
 rw [List.take_of_length_le (Nat.le_of_eq hk16)] at hX
 obtain ⟨vi, hvi, h3, hti⟩ := itPs_row (i := 16) (t := l[16]) hvs (List.getElem?_eq_getElem (by omega))
 obtain ⟨bA, oA, rfl⟩ := rb_some3 hB hvi h3
 have hl16 : l[16]? = some l[16] := List.getElem?_eq_getElem (by omega)
 generalize l[16] = t at *
 obtain ⟨A1, c1, o1, A2, c2, o2, _, rfl, hA1, hc1, _⟩ := itP_cellsC h0 hti
 have hks : rs.length = 16 := by rw [← refsP_len hX, hk16]
 refine wo ?_
 first | (apply wn; iterate 5 exact rfl) | (apply dn; iterate 5 exact rfl) | (apply wg; iterate 7 exact rfl) | (apply dg; iterate 7 exact rfl)
 refine p_ian (i := 16) rfl rfl (show 16 < l.length by omega)
 first | (apply wm; iterate 5 exact rfl) | (apply dm; iterate 6 exact rfl) | (apply wmg; iterate 7 exact rfl) | (apply dmg; iterate 8 exact rfl)
 refine m_ldnN (j := 16 * 3) (s := 2) rfl hB.1 hB.2 rfl hvi h3
 first | (apply p_op; exact (vwant_n rfl); iterate 4 exact rfl) | (apply d_op; exact (vwant_n rfl); exact rfl; exact noRd rfl; decide +kernel; (iterate 3 exact rfl); rotate_left) | (apply p_op; exact (vwant_g rfl rfl rfl); iterate 4 exact rfl) | (apply d_op; exact (vwant_g rfl rfl rfl); exact rfl; exact noRd rfl; decide +kernel; (iterate 3 exact rfl); rotate_left)
 refine e_alloc rfl fun b8 => ⟨_, rfl, ?_⟩
 try (case hok => first | exact rdOk_nil | exact rdOk_b (by decide +kernel) | exact rdOk_c | (repeat (first | exact rdOk_e | refine rdOk_d (by decide +kernel) ?_ | refine rdOk_n ?_)))
 first | (apply p_do; exact (vwant_n rfl); exact rfl; exact rfl) | (apply d_do; exact (vwant_n rfl); exact rfl; exact noRd rfl; decide +kernel; exact rfl; rotate_left) | (apply p_do; exact (vwant_g rfl rfl rfl); exact rfl; exact rfl) | (apply d_do; exact (vwant_g rfl rfl rfl); exact rfl; exact noRd rfl; decide +kernel; exact rfl; rotate_left)
 refine e_stn (C' := [.b (isL t), .sl A1 (itB t).length c1 o1, .sl A2 (itL t).length c2 o2]) rfl rfl (by simp) rfl (Nat.le_of_ble_eq_true rfl) rfl ⟨_, rfl, ?_⟩
 try (case hok => first | exact rdOk_nil | exact rdOk_b (by decide +kernel) | exact rdOk_c | (repeat (first | exact rdOk_e | refine rdOk_d (by decide +kernel) ?_ | refine rdOk_n ?_)))
 refine wo ?_
 first | (apply p_do; exact (vwant_n rfl); exact rfl; exact rfl) | (apply d_do; exact (vwant_n rfl); exact rfl; exact noRd rfl; decide +kernel; exact rfl; rotate_left) | (apply p_do; exact (vwant_g rfl rfl rfl); exact rfl; exact rfl) | (apply d_do; exact (vwant_g rfl rfl rfl); exact rfl; exact noRd rfl; decide +kernel; exact rfl; rotate_left)
 refine e_st (C' := nodC brN (.sl none 0 0 false) (.sl A1 (itB t).length c1 o1) zFC ks.flatten) rfl rfl rfl (by rw [hlen _ _ hk16 hk34]; omega) rfl ⟨_, rfl, ?_⟩
 try (case hok => first | exact rdOk_nil | exact rdOk_b (by decide +kernel) | exact rdOk_c | (repeat (first | exact rdOk_e | refine rdOk_d (by decide +kernel) ?_ | refine rdOk_n ?_)))
 refine wo ?_
 first | (apply wm; iterate 5 exact rfl) | (apply dm; iterate 6 exact rfl) | (apply wmg; iterate 7 exact rfl) | (apply dmg; iterate 8 exact rfl)
 refine m_gtrD (p := 0 < (itB t).length) rfl rfl (by omega)
 refine wo ?_
 first | (apply p_do; exact (vwant_n rfl); exact rfl; exact rfl) | (apply d_do; exact (vwant_n rfl); exact rfl; exact noRd rfl; decide +kernel; exact rfl; rotate_left) | (apply p_do; exact (vwant_g rfl rfl rfl); exact rfl; exact rfl) | (apply d_do; exact (vwant_g rfl rfl rfl); exact rfl; exact noRd rfl; decide +kernel; exact rfl; rotate_left)
 refine e_st (C' := nodC ⟨3, [], [], decide (0 < (itB t).length), zRef, []⟩ (.sl none 0 0 false) (.sl A1 (itB t).length c1 o1) zFC ks.flatten) rfl rfl rfl (by rw [hlen _ _ hk16 hk34]; omega) rfl ⟨_, rfl, ?_⟩
 try (case hok => first | exact rdOk_nil | exact rdOk_b (by decide +kernel) | exact rdOk_c | (repeat (first | exact rdOk_e | refine rdOk_d (by decide +kernel) ?_ | refine rdOk_n ?_)))
 have hml := hlen (.sl A1 (itB t).length c1 o1) ks hk16 hk34 ⟨3, [], [], decide (0 < (itB t).length), zRef, []⟩
 refine wl_know (fun hp hs => (⟨nin1 (b := b4) (b' := b2) hs (by omega), nin1 (b := b8) (b' := b2) hs (by omega), nin1 (b := b2) (b' := b4) hs (by omega), nin1 (b := b2) (b' := b8) hs (by omega)⟩ : NotIn b4 [b2] ∧ NotIn b8 [b2] ∧ NotIn b2 [b4] ∧ NotIn b2 [b8])) fun ⟨n1, n2, n3, n4⟩ => ?_
 refine wo ?_
 first | refine zX (m_ldln (s := 581) (cs := nodC ⟨3, [], [], decide (0 < (itB t).length), zRef, []⟩ (.sl none 0 0 false) (.sl A1 (itB t).length c1 o1) zFC ks.flatten) rfl (all_take _ hml) hml) ?_ | refine yX (m_ldln (s := 581) (cs := nodC ⟨3, [], [], decide (0 < (itB t).length), zRef, []⟩ (.sl none 0 0 false) (.sl A1 (itB t).length c1 o1) zFC ks.flatten) rfl (all_take _ hml) hml) ?_
 refine wo ?_
 first | (apply p_do; exact (vwant_n rfl); exact rfl; exact rfl) | (apply d_do; exact (vwant_n rfl); exact rfl; exact noRd rfl; decide +kernel; exact rfl; rotate_left) | (apply p_do; exact (vwant_g rfl rfl rfl); exact rfl; exact rfl) | (apply d_do; exact (vwant_g rfl rfl rfl); exact rfl; exact noRd rfl; decide +kernel; exact rfl; rotate_left)
 refine e_stn (C' := nodC ⟨3, [], [], decide (0 < (itB t).length), zRef, []⟩ (.sl none 0 0 false) (.sl A1 (itB t).length c1 o1) zFC ks.flatten) rfl rfl (List.cons_ne_nil _ _) hml (Nat.le_of_eq zNC_len.symm) (overV_all (hml.trans zNC_len.symm)) ⟨_, rfl, ?_⟩
 try (case hok => first | exact rdOk_nil | exact rdOk_b (by decide +kernel) | exact rdOk_c | (repeat (first | exact rdOk_e | refine rdOk_d (by decide +kernel) ?_ | refine rdOk_n ?_)))
 refine wo ?_
 refine w_ret (wend_ret (vres2 (rv_cell rfl hml) (rv_tmp rfl)) ⟨X, cle, ?_⟩)
 rw [hsh, hrs, hl16]
 cases t with
 | list l' => exact ⟨_, rfl, _, rfl, hml⟩
 | str v => exact ⟨_, rfl, _, rfl, hks, none, 0, false, A1, c1, o1, zFC, ks, rfl, .inr Sn.nil, Nat.le_refl _, .inl hA1, hc1, zFC_p _ (.inr Sn.nil), refsP_mono (fun A c o cs h => .inr h) hX⟩
/- Nw8: shortOf and Decode of node, by the program; Check and Encode outright. By this project. -/
theorem UnpackNo {A : Option (Nat × Nat)} {b : List UInt8} {c : Nat} {o : Bool} {hp : Hp} (h0 : unpackS b = none) (ho : OkH hp) (hA : RB ⟨hp, []⟩ A (b.map byV)) (hc : b.length ≤ c) (hl : b.length ≤ 1048576) :
  Fn kxD 53 [.sl A b.length c o] hp [] fun r N => ∃ u, r = .v u ∧ u = .tup [.sl none 0 0 false, .b false, .i .i64 60] := by
 have := unpack_d (o := o) ho hA hc hl
 rw [h0] at this
 exact this
theorem UnpackOk {A : Option (Nat × Nat)} {b xs : List UInt8} {lf : Bool} {c : Nat} {o : Bool} {hp : Hp} (h0 : unpackS b = some (xs, lf)) (ho : OkH hp) (hA : RB ⟨hp, []⟩ A (b.map byV)) (hc : b.length ≤ c) (hl : b.length ≤ 1048576) :
  Fn kxD 53 [.sl A b.length c o] hp [] fun r N => ∃ u, r = .v u ∧ ∃ w, u = .tup [w, .b lf, .i .i64 0] ∧ RowK xs w N := by
 have := unpack_d (o := o) ho hA hc hl
 rw [h0] at this
 exact this
theorem snQ_nil {P : PQ} {N : HV} : P none [] ∨ Sn N none [] := .inr Sn.nil
theorem ex_put {s : V} {w : List V} {nib : List UInt8} {r : RefS} (hw : w.length = 34) : putAllV zNC [(0, [.i .i64 2]), (1, [s]), (4, w)] = nodC ⟨2, nib, [], false, r, List.replicate 16 zRef⟩ s (.sl none 0 0 false) w (List.replicate 16 zFC).flatten := by
 have e : putAllV zNC [(0, [.i .i64 2]), (1, [s]), (4, w)] = overV (putAllV zNC [(0, [.i .i64 2]), (1, [s])]) (0 + 4) w := rfl
 have e2 : putAllV zNC [(0, [.i .i64 2]), (1, [s])] = nodC ⟨2, nib, [], false, r, List.replicate 16 zRef⟩ s (.sl none 0 0 false) zFC (List.replicate 16 zFC).flatten := by kernel_rfl
 rw [e, e2]
 exact nodC_put zFC_len hw
set_option maxHeartbeats 16000000 in
theorem shortof_d {P : PQ} {p x : It} {v0 v1 : List V} {hp : Hp} (ho : OkH hp) (hp0 : ItP P p v0) (hx1 : ItP P x v1) (hP : ∀ A cs, P A cs → RB ⟨hp, []⟩ A cs) (h0 : P none []) (hlp : (itB p).length ≤ 1048576) (hlx : (enc x).length ≤ 1048576) (hdx : depth x ≤ 80) :
  Fn kxD 29 [.agg v0, .agg v1] hp [] fun q N => match shapeS [p, x] with
   | none => ∃ u, q = .v u ∧ ∃ w, u = .tup [.agg w, .b false] ∧ w.length = 582
   | some n => ∃ u, q = .v u ∧ ∃ w, u = .tup [.agg w, .b true] ∧ NodP (fun A _ _ cs => P A cs ∨ Sn N A cs) n w := by
 have hx0 := hx1
 obtain ⟨A1, c1, o1, A2, c2, o2, _, rfl, hA1, hc1, _⟩ := itP_cellsC h0 hp0
 obtain ⟨A3, c3, o3, A4, c4, o4, _, rfl, hA3, hc3, _⟩ := itP_cellsC h0 hx1
 have hB1 := hP _ _ hA1
 refine Fn.dropC ?_
 refine fn_of_w (T := []) ho.sv (fun _ => rfl) (fn := Try.f29) (by kernel_rfl) rfl rfl ?_
 refine wo ?_
 first | (apply p_op; exact (vwant_n rfl); iterate 4 exact rfl) | (apply d_op; exact (vwant_n rfl); exact rfl; exact noRd rfl; decide +kernel; (iterate 3 exact rfl); rotate_left) | (apply p_op; exact (vwant_g rfl rfl rfl); iterate 4 exact rfl) | (apply d_op; exact (vwant_g rfl rfl rfl); exact rfl; exact noRd rfl; decide +kernel; (iterate 3 exact rfl); rotate_left)
 refine ev_box rfl rfl fun b2 => ⟨_, rfl, ?_⟩
 try (case hok => first | exact rdOk_nil | exact rdOk_b (by decide +kernel) | exact rdOk_c | (repeat (first | exact rdOk_e | refine rdOk_d (by decide +kernel) ?_ | refine rdOk_n ?_)))
 first | (apply p_op; exact (vwant_n rfl); iterate 4 exact rfl) | (apply d_op; exact (vwant_n rfl); exact rfl; exact noRd rfl; decide +kernel; (iterate 3 exact rfl); rotate_left) | (apply p_op; exact (vwant_g rfl rfl rfl); iterate 4 exact rfl) | (apply d_op; exact (vwant_g rfl rfl rfl); exact rfl; exact noRd rfl; decide +kernel; (iterate 3 exact rfl); rotate_left)
 refine ev_box rfl rfl fun b3 => ⟨_, rfl, ?_⟩
 try (case hok => first | exact rdOk_nil | exact rdOk_b (by decide +kernel) | exact rdOk_c | (repeat (first | exact rdOk_e | refine rdOk_d (by decide +kernel) ?_ | refine rdOk_n ?_)))
 first | (apply p_op; exact (vwant_n rfl); iterate 4 exact rfl) | (apply d_op; exact (vwant_n rfl); exact rfl; exact noRd rfl; decide +kernel; (iterate 3 exact rfl); rotate_left) | (apply p_op; exact (vwant_g rfl rfl rfl); iterate 4 exact rfl) | (apply d_op; exact (vwant_g rfl rfl rfl); exact rfl; exact noRd rfl; decide +kernel; (iterate 3 exact rfl); rotate_left)
 refine e_alloc (zc := zNC) (by kernel_rfl) fun b4 => ⟨_, rfl, ?_⟩
 try (case hok => first | exact rdOk_nil | exact rdOk_b (by decide +kernel) | exact rdOk_c | (repeat (first | exact rdOk_e | refine rdOk_d (by decide +kernel) ?_ | refine rdOk_n ?_)))
 refine wl_know (fun hp hs => (⟨nin1 (b := b3) (b' := b4) hs (by omega), nin1 (b := b4) (b' := b3) hs (by omega)⟩ : NotIn b3 [b4] ∧ NotIn b4 [b3])) fun ⟨n1, n2⟩ => ?_
 refine wo ?_
 cases hu : unpackS (itB p) with
 | none =>
  have hsh : shapeS [p, x] = none := by
   cases p with
   | list l => rfl
   | str pb => simp [shapeS, show unpackS pb = none from hu]
  rw [hsh]
  first | (apply p_callY []; exact (vwant_n rfl); iterate 4 exact rfl) | (apply d_callY []; exact (vwant_n rfl); decide +kernel; (iterate 4 exact rfl)) | (apply p_callY []; exact (vwant_g rfl rfl rfl); iterate 4 exact rfl) | (apply d_callY []; exact (vwant_g rfl rfl rfl); decide +kernel; (iterate 4 exact rfl))
  try (case hok => first | exact rdOk_nil | exact rdOk_b (by decide +kernel) | exact rdOk_c)
  case hC => exact (fun hp' hs ht => UnpackNo hu hs.ok (hB1.give0 hs) hc1 hlp)
  rintro u N rfl
  refine wo ?_
  cases hq : isL p with
  | true =>
   refine wo ?_
   first | (apply wn; iterate 5 exact rfl) | (apply dn; iterate 5 exact rfl) | (apply wg; iterate 7 exact rfl) | (apply dg; iterate 7 exact rfl)
   refine p_buildS (C := zNC) .nil (by kernel_rfl)
   first | (apply p_do; exact (vwant_n rfl); exact rfl; exact rfl) | (apply d_do; exact (vwant_n rfl); exact rfl; exact noRd rfl; decide +kernel; exact rfl; rotate_left) | (apply p_do; exact (vwant_g rfl rfl rfl); exact rfl; exact rfl) | (apply d_do; exact (vwant_g rfl rfl rfl); exact rfl; exact noRd rfl; decide +kernel; exact rfl; rotate_left)
   refine e_stn (C' := zNC) rfl rfl zNC_ne zNC_len (Nat.le_of_eq zNC_len.symm) (overV_all rfl) ⟨_, rfl, ?_⟩
   try (case hok => first | exact rdOk_nil | exact rdOk_b (by decide +kernel) | exact rdOk_c | (repeat (first | exact rdOk_e | refine rdOk_d (by decide +kernel) ?_ | refine rdOk_n ?_)))
   refine wo ?_
   exact w_ret (wend_ret (vres2 (rv_cell rfl zNC_len) (rv_tmp rfl)) ⟨[], cle, _, rfl, _, rfl, zNC_len⟩)
  | false =>
   refine wo ?_
   first | (apply wm; iterate 5 exact rfl) | (apply dm; iterate 6 exact rfl) | (apply wmg; iterate 7 exact rfl) | (apply dmg; iterate 8 exact rfl)
   refine mv_int (v := .b true) rfl rfl (vi_neqT ((by decide)))
   refine wo ?_
   first | (apply wn; iterate 5 exact rfl) | (apply dn; iterate 5 exact rfl) | (apply wg; iterate 7 exact rfl) | (apply dg; iterate 7 exact rfl)
   refine p_buildS (C := zNC) .nil (by kernel_rfl)
   first | (apply p_do; exact (vwant_n rfl); exact rfl; exact rfl) | (apply d_do; exact (vwant_n rfl); exact rfl; exact noRd rfl; decide +kernel; exact rfl; rotate_left) | (apply p_do; exact (vwant_g rfl rfl rfl); exact rfl; exact rfl) | (apply d_do; exact (vwant_g rfl rfl rfl); exact rfl; exact noRd rfl; decide +kernel; exact rfl; rotate_left)
   refine e_stn (C' := zNC) rfl rfl zNC_ne zNC_len (Nat.le_of_eq zNC_len.symm) (overV_all rfl) ⟨_, rfl, ?_⟩
   try (case hok => first | exact rdOk_nil | exact rdOk_b (by decide +kernel) | exact rdOk_c | (repeat (first | exact rdOk_e | refine rdOk_d (by decide +kernel) ?_ | refine rdOk_n ?_)))
   refine wo ?_
   exact w_ret (wend_ret (vres2 (rv_cell rfl zNC_len) (rv_tmp rfl)) ⟨[], cle, _, rfl, _, rfl, zNC_len⟩)
 | some w =>
  obtain ⟨nib, lf⟩ := w
  cases p with
  | list l => exact absurd hu (by simp [itB, unpackS])
  | str pb =>
  have hu' : unpackS pb = some (nib, lf) := hu
  first | (apply p_callY []; exact (vwant_n rfl); iterate 4 exact rfl) | (apply d_callY []; exact (vwant_n rfl); decide +kernel; (iterate 4 exact rfl)) | (apply p_callY []; exact (vwant_g rfl rfl rfl); iterate 4 exact rfl) | (apply d_callY []; exact (vwant_g rfl rfl rfl); decide +kernel; (iterate 4 exact rfl))
  try (case hok => first | exact rdOk_nil | exact rdOk_b (by decide +kernel) | exact rdOk_c)
  case hC => exact (fun hp' hs ht => UnpackOk hu hs.ok (hB1.give0 hs) hc1 hlp)
  rintro u N ⟨w1, rfl, hw1⟩
  obtain ⟨A5, o5, rfl⟩ := hw1.sl
  refine wo ?_
  first | (apply wm; iterate 5 exact rfl) | (apply dm; iterate 6 exact rfl) | (apply wmg; iterate 7 exact rfl) | (apply dmg; iterate 8 exact rfl)
  refine mv_int (v := .b false) rfl rfl (vi_neqF ((by simp)))
  refine wo ?_
  cases lf with
  | true =>
   have hlen : (nodC ⟨1, nib, itB x, false, zRef, List.replicate 16 zRef⟩ (.sl A5 nib.length nib.length o5) (.sl A3 (itB x).length c3 o3) zFC (List.replicate 16 zFC).flatten).length = 582 := by kernel_rfl
   refine wo ?_
   first | (apply wn; iterate 5 exact rfl) | (apply dn; iterate 5 exact rfl) | (apply wg; iterate 7 exact rfl) | (apply dg; iterate 7 exact rfl)
   refine p_buildS (C := nodC ⟨1, nib, itB x, false, zRef, List.replicate 16 zRef⟩ (.sl A5 nib.length nib.length o5) (.sl A3 (itB x).length c3 o3) zFC (List.replicate 16 zFC).flatten) (.cons rfl rfl rfl rfl (Nat.le_of_ble_eq_true rfl) (.cons rfl rfl rfl rfl (Nat.le_of_ble_eq_true rfl) (.cons rfl rfl rfl rfl (Nat.le_of_ble_eq_true rfl) .nil))) (by kernel_rfl)
   refine wo ?_
   first | (apply p_do; exact (vwant_n rfl); exact rfl; exact rfl) | (apply d_do; exact (vwant_n rfl); exact rfl; exact noRd rfl; decide +kernel; exact rfl; rotate_left) | (apply p_do; exact (vwant_g rfl rfl rfl); exact rfl; exact rfl) | (apply d_do; exact (vwant_g rfl rfl rfl); exact rfl; exact noRd rfl; decide +kernel; exact rfl; rotate_left)
   refine e_stn (C' := nodC ⟨1, nib, itB x, false, zRef, List.replicate 16 zRef⟩ (.sl A5 nib.length nib.length o5) (.sl A3 (itB x).length c3 o3) zFC (List.replicate 16 zFC).flatten) rfl rfl (List.cons_ne_nil _ _) hlen (Nat.le_of_eq zNC_len.symm) (overV_all (hlen.trans zNC_len.symm)) ⟨_, rfl, ?_⟩
   try (case hok => first | exact rdOk_nil | exact rdOk_b (by decide +kernel) | exact rdOk_c | (repeat (first | exact rdOk_e | refine rdOk_d (by decide +kernel) ?_ | refine rdOk_n ?_)))
   refine wo ?_
   refine w_ret (wend_ret (vres2 (rv_cell rfl hlen) (rv_tmp rfl)) ⟨N, cle, ?_⟩)
   cases x with
   | list l =>
    have hsh : shapeS [.str pb, .list l] = none := by simp [shapeS, hu']
    rw [hsh]
    exact ⟨_, rfl, _, rfl, hlen⟩
   | str v =>
    have hsh : shapeS [.str pb, .str v] = some ⟨1, nib, v, false, zRef, List.replicate 16 zRef⟩ := by simp [shapeS, hu']
    rw [hsh]
    exact ⟨_, rfl, _, rfl, rfl, A5, _, o5, A3, c3, o3, zFC, List.replicate 16 zFC, rfl, .inr (hw1.sn fun p hp => hp), Nat.le_refl _, .inl hA3, hc3, zFC_p _ snQ_nil, refsP_rep snQ_nil 16⟩
  | false =>
   refine wo ?_
   first | refine zX (m_ldln (s := 2) (cs := [.b (isL x), .sl A3 (itB x).length c3 o3, .sl A4 (itL x).length c4 o4]) rfl rfl rfl) ?_ | refine yX (m_ldln (s := 2) (cs := [.b (isL x), .sl A3 (itB x).length c3 o3, .sl A4 (itL x).length c4 o4]) rfl rfl rfl) ?_
   cases hr : refOfS x with
   | none =>
    have hsh : shapeS [.str pb, x] = none := by simp [shapeS, hu', hr]
    rw [hsh]
    have hlen : (nodC ⟨2, nib, [], false, zRef, List.replicate 16 zRef⟩ (.sl A5 nib.length nib.length o5) (.sl none 0 0 false) zFC (List.replicate 16 zFC).flatten).length = 582 := by kernel_rfl
    first | (apply p_callY []; exact (vwant_n rfl); iterate 4 exact rfl) | (apply d_callY []; exact (vwant_n rfl); decide +kernel; (iterate 4 exact rfl)) | (apply p_callY []; exact (vwant_g rfl rfl rfl); iterate 4 exact rfl) | (apply d_callY []; exact (vwant_g rfl rfl rfl); decide +kernel; (iterate 4 exact rfl))
    try (case hok => first | exact rdOk_nil | exact rdOk_b (by decide +kernel) | exact rdOk_c)
    case hC => exact (fun hp' hs ht => RefofNo hr hs.ok hx0 (fun A cs h => (hP A cs h).give0 hs) hlx hdx)
    rintro u N1 rfl
    refine wo ?_
    first | (apply p_op; exact (vwant_n rfl); iterate 4 exact rfl) | (apply d_op; exact (vwant_n rfl); exact rfl; exact noRd rfl; decide +kernel; (iterate 3 exact rfl); rotate_left) | (apply p_op; exact (vwant_g rfl rfl rfl); iterate 4 exact rfl) | (apply d_op; exact (vwant_g rfl rfl rfl); exact rfl; exact noRd rfl; decide +kernel; (iterate 3 exact rfl); rotate_left)
    refine e_alloc (zc := zFC) rfl fun b9 => ⟨_, rfl, ?_⟩
    try (case hok => first | exact rdOk_nil | exact rdOk_b (by decide +kernel) | exact rdOk_c | (repeat (first | exact rdOk_e | refine rdOk_d (by decide +kernel) ?_ | refine rdOk_n ?_)))
    first | (apply p_do; exact (vwant_n rfl); exact rfl; exact rfl) | (apply d_do; exact (vwant_n rfl); exact rfl; exact noRd rfl; decide +kernel; exact rfl; rotate_left) | (apply p_do; exact (vwant_g rfl rfl rfl); exact rfl; exact rfl) | (apply d_do; exact (vwant_g rfl rfl rfl); exact rfl; exact noRd rfl; decide +kernel; exact rfl; rotate_left)
    refine e_stn (C' := zFC) rfl rfl (ne_of_len zFC_len (by decide)) zFC_len (Nat.le_of_eq zFC_len.symm) rfl ⟨_, rfl, ?_⟩
    try (case hok => first | exact rdOk_nil | exact rdOk_b (by decide +kernel) | exact rdOk_c | (repeat (first | exact rdOk_e | refine rdOk_d (by decide +kernel) ?_ | refine rdOk_n ?_)))
    refine wo ?_
    first | refine zX (m_ldln (s := 33) (cs := zFC) rfl (all_take _ zFC_len) zFC_len) ?_ | refine yX (m_ldln (s := 33) (cs := zFC) rfl (all_take _ zFC_len) zFC_len) ?_
    first | (apply wn; iterate 5 exact rfl) | (apply dn; iterate 5 exact rfl) | (apply wg; iterate 7 exact rfl) | (apply dg; iterate 7 exact rfl)
    refine p_buildS (C := nodC ⟨2, nib, [], false, zRef, List.replicate 16 zRef⟩ (.sl A5 nib.length nib.length o5) (.sl none 0 0 false) zFC (List.replicate 16 zFC).flatten) (.cons rfl rfl rfl rfl (Nat.le_of_ble_eq_true rfl) (.cons rfl rfl rfl rfl (Nat.le_of_ble_eq_true rfl) (.cons rfl rfl rfl zFC_len (Nat.le_of_ble_eq_true rfl) .nil))) (by kernel_rfl)
    refine wo ?_
    first | (apply p_do; exact (vwant_n rfl); exact rfl; exact rfl) | (apply d_do; exact (vwant_n rfl); exact rfl; exact noRd rfl; decide +kernel; exact rfl; rotate_left) | (apply p_do; exact (vwant_g rfl rfl rfl); exact rfl; exact rfl) | (apply d_do; exact (vwant_g rfl rfl rfl); exact rfl; exact noRd rfl; decide +kernel; exact rfl; rotate_left)
    refine e_stn (C' := nodC ⟨2, nib, [], false, zRef, List.replicate 16 zRef⟩ (.sl A5 nib.length nib.length o5) (.sl none 0 0 false) zFC (List.replicate 16 zFC).flatten) rfl rfl (List.cons_ne_nil _ _) hlen (Nat.le_of_eq zNC_len.symm) (overV_all (hlen.trans zNC_len.symm)) ⟨_, rfl, ?_⟩
    try (case hok => first | exact rdOk_nil | exact rdOk_b (by decide +kernel) | exact rdOk_c | (repeat (first | exact rdOk_e | refine rdOk_d (by decide +kernel) ?_ | refine rdOk_n ?_)))
    refine wo ?_
    exact w_ret (wend_ret (vres2 (rv_cell rfl hlen) (rv_tmp rfl)) ⟨[], cle, _, rfl, _, rfl, hlen⟩)
   | some r =>
    have hsh : shapeS [.str pb, x] = some ⟨2, nib, [], false, r, List.replicate 16 zRef⟩ := by simp [shapeS, hu', hr]
    rw [hsh]
    first | (apply p_callY []; exact (vwant_n rfl); iterate 4 exact rfl) | (apply d_callY []; exact (vwant_n rfl); decide +kernel; (iterate 4 exact rfl)) | (apply p_callY []; exact (vwant_g rfl rfl rfl); iterate 4 exact rfl) | (apply d_callY []; exact (vwant_g rfl rfl rfl); decide +kernel; (iterate 4 exact rfl))
    try (case hok => first | exact rdOk_nil | exact rdOk_b (by decide +kernel) | exact rdOk_c)
    case hC => exact (fun hp' hs ht => RefofOk hr hs.ok hx0 (fun A cs h => (hP A cs h).give0 hs) hlx hdx)
    rintro u N1 ⟨wr, rfl, hwr⟩
    have hwl := hwr.len
    have hlen : (nodC ⟨2, nib, [], false, r, List.replicate 16 zRef⟩ (.sl A5 nib.length nib.length o5) (.sl none 0 0 false) wr (List.replicate 16 zFC).flatten).length = 582 := by
     have : (List.replicate 16 zFC).flatten.length = 544 := by kernel_rfl
     simp only [List.length_cons, List.length_append, hwl, this]
    refine wo ?_
    first | (apply p_op; exact (vwant_n rfl); iterate 4 exact rfl) | (apply d_op; exact (vwant_n rfl); exact rfl; exact noRd rfl; decide +kernel; (iterate 3 exact rfl); rotate_left) | (apply p_op; exact (vwant_g rfl rfl rfl); iterate 4 exact rfl) | (apply d_op; exact (vwant_g rfl rfl rfl); exact rfl; exact noRd rfl; decide +kernel; (iterate 3 exact rfl); rotate_left)
    refine e_alloc (zc := zFC) rfl fun b9 => ⟨_, rfl, ?_⟩
    try (case hok => first | exact rdOk_nil | exact rdOk_b (by decide +kernel) | exact rdOk_c | (repeat (first | exact rdOk_e | refine rdOk_d (by decide +kernel) ?_ | refine rdOk_n ?_)))
    first | (apply p_do; exact (vwant_n rfl); exact rfl; exact rfl) | (apply d_do; exact (vwant_n rfl); exact rfl; exact noRd rfl; decide +kernel; exact rfl; rotate_left) | (apply p_do; exact (vwant_g rfl rfl rfl); exact rfl; exact rfl) | (apply d_do; exact (vwant_g rfl rfl rfl); exact rfl; exact noRd rfl; decide +kernel; exact rfl; rotate_left)
    refine e_stn (C' := wr) rfl rfl (ne_of_len hwl (by decide)) hwl (Nat.le_of_eq zFC_len.symm) (overV_all (hwl.trans zFC_len.symm)) ⟨_, rfl, ?_⟩
    try (case hok => first | exact rdOk_nil | exact rdOk_b (by decide +kernel) | exact rdOk_c | (repeat (first | exact rdOk_e | refine rdOk_d (by decide +kernel) ?_ | refine rdOk_n ?_)))
    refine wo ?_
    first | refine zX (m_ldln (s := 33) (cs := wr) rfl (all_take _ hwl) hwl) ?_ | refine yX (m_ldln (s := 33) (cs := wr) rfl (all_take _ hwl) hwl) ?_
    first | (apply wn; iterate 5 exact rfl) | (apply dn; iterate 5 exact rfl) | (apply wg; iterate 7 exact rfl) | (apply dg; iterate 7 exact rfl)
    refine p_buildS (C := nodC ⟨2, nib, [], false, r, List.replicate 16 zRef⟩ (.sl A5 nib.length nib.length o5) (.sl none 0 0 false) wr (List.replicate 16 zFC).flatten) (.cons rfl rfl rfl rfl (Nat.le_of_ble_eq_true rfl) (.cons rfl rfl rfl rfl (Nat.le_of_ble_eq_true rfl) (.cons rfl rfl rfl hwl (Nat.le_of_ble_eq_true rfl) .nil))) (ex_put hwl)
    refine wo ?_
    first | (apply p_do; exact (vwant_n rfl); exact rfl; exact rfl) | (apply d_do; exact (vwant_n rfl); exact rfl; exact noRd rfl; decide +kernel; exact rfl; rotate_left) | (apply p_do; exact (vwant_g rfl rfl rfl); exact rfl; exact rfl) | (apply d_do; exact (vwant_g rfl rfl rfl); exact rfl; exact noRd rfl; decide +kernel; exact rfl; rotate_left)
    refine e_stn (C' := nodC ⟨2, nib, [], false, r, List.replicate 16 zRef⟩ (.sl A5 nib.length nib.length o5) (.sl none 0 0 false) wr (List.replicate 16 zFC).flatten) rfl rfl (List.cons_ne_nil _ _) hlen (Nat.le_of_eq zNC_len.symm) (overV_all (hlen.trans zNC_len.symm)) ⟨_, rfl, ?_⟩
    try (case hok => first | exact rdOk_nil | exact rdOk_b (by decide +kernel) | exact rdOk_c | (repeat (first | exact rdOk_e | refine rdOk_d (by decide +kernel) ?_ | refine rdOk_n ?_)))
    refine wo ?_
    exact w_ret (wend_ret (vres2 (rv_cell rfl hlen) (rv_tmp rfl)) ⟨N1 ++ N, cle, _, rfl, _, rfl, rfl, A5, _, o5, none, 0, false, wr, List.replicate 16 zFC, rfl, .inr (hw1.sn fun p hp => List.mem_append_right _ hp), Nat.le_refl _, snQ_nil, Nat.le_refl _, hwr.mono fun A c o cs h => .inr (h.mono fun p hp => List.mem_append_left _ hp), refsP_rep snQ_nil 16⟩)
theorem ShortNo {P : PQ} {p x : It} {v0 v1 : List V} {hp : Hp} (hS : shapeS [p, x] = none) (ho : OkH hp) (hp0 : ItP P p v0) (hx1 : ItP P x v1) (hP : ∀ A cs, P A cs → RB ⟨hp, []⟩ A cs) (h0 : P none []) (hlp : (itB p).length ≤ 1048576) (hlx : (enc x).length ≤ 1048576) (hdx : depth x ≤ 80) :
  Fn kxD 29 [.agg v0, .agg v1] hp [] fun q N => ∃ u, q = .v u ∧ ∃ w, u = .tup [.agg w, .b false] ∧ w.length = 582 := by
 have := shortof_d ho hp0 hx1 hP h0 hlp hlx hdx
 rw [hS] at this
 exact this
theorem ShortOk {P : PQ} {p x : It} {n : NodS} {v0 v1 : List V} {hp : Hp} (hS : shapeS [p, x] = some n) (ho : OkH hp) (hp0 : ItP P p v0) (hx1 : ItP P x v1) (hP : ∀ A cs, P A cs → RB ⟨hp, []⟩ A cs) (h0 : P none []) (hlp : (itB p).length ≤ 1048576) (hlx : (enc x).length ≤ 1048576) (hdx : depth x ≤ 80) :
  Fn kxD 29 [.agg v0, .agg v1] hp [] fun q N => ∃ u, q = .v u ∧ ∃ w, u = .tup [.agg w, .b true] ∧ NodP (fun A _ _ cs => P A cs ∨ Sn N A cs) n w := by
 have := shortof_d ho hp0 hx1 hP h0 hlp hlx hdx
 rw [hS] at this
 exact this
theorem BranchNo {P : PQ} {l : List It} {A : Option (Nat × Nat)} {c : Nat} {o : Bool} {vs : List (List V)} {hp : Hp} (hS : shapeS l = none) (ho : OkH hp) (hA : P A vs.flatten) (hvs : ItPs P l vs) (hP : ∀ A cs, P A cs → RB ⟨hp, []⟩ A cs) (h0 : P none []) (h17 : l.length = 17) (hl : ∀ t ∈ l, (enc t).length ≤ 1048576 ∧ depth t ≤ 80) :
  Fn kxD 30 [.sl A l.length c o] hp [] fun q N => ∃ u, q = .v u ∧ ∃ w, u = .tup [.agg w, .b false] ∧ w.length = 582 := by
 have := branchof_d (c := c) (o := o) ho hA hvs hP h0 h17 hl
 rw [hS] at this
 exact this
theorem BranchOk {P : PQ} {l : List It} {n : NodS} {A : Option (Nat × Nat)} {c : Nat} {o : Bool} {vs : List (List V)} {hp : Hp} (hS : shapeS l = some n) (ho : OkH hp) (hA : P A vs.flatten) (hvs : ItPs P l vs) (hP : ∀ A cs, P A cs → RB ⟨hp, []⟩ A cs) (h0 : P none []) (h17 : l.length = 17) (hl : ∀ t ∈ l, (enc t).length ≤ 1048576 ∧ depth t ≤ 80) :
  Fn kxD 30 [.sl A l.length c o] hp [] fun q N => ∃ u, q = .v u ∧ ∃ w, u = .tup [.agg w, .b true] ∧ NodP (fun A _ _ cs => P A cs ∨ Sn N A cs) n w := by
 have := branchof_d (c := c) (o := o) ho hA hvs hP h0 h17 hl
 rw [hS] at this
 exact this
theorem decS_ne {b : List UInt8} {x : Flt} (h : decS b = .error x) : x.2 ≠ 0 := by
 rw [decS_of] at h
 cases hR : readS b with
 | error y =>
  rw [hR] at h
  obtain rfl := Except.error.inj h
  exact readS_err hR
 | ok tq =>
  rw [hR] at h
  dsimp only at h
  split at h
  ·obtain rfl := Except.error.inj h
   simp
  ·simp at h
theorem itB_enc (t : It) (h : (enc t).length ≤ 1048576) : (itB t).length ≤ 1048576 := by
 cases t with
 | list l => exact Nat.zero_le _
 | str bs =>
  rw [itB]
  rw [enc] at h
  have : bs.length ≤ (strB bs).length := by
   by_cases g : ∃ b, bs = [b] ∧ b.toNat < 128
   ·obtain ⟨b, rfl, g2⟩ := g
    rw [strB_one g2]
    exact Nat.le_refl _
   ·rw [strB_many fun b e h => g ⟨b, e, h⟩, List.length_append]
    omega
  omega
theorem shape_two {l : List It} (h2 : l.length ≠ 2) (h17 : l.length ≠ 17) : shapeS l = none := by
 unfold shapeS
 rw [if_neg h2, if_neg h17]
set_option maxHeartbeats 64000000 in
theorem decode_k {b : List UInt8} (ih : ∀ b' : List UInt8, b'.length < b.length → DecOk b') : DecOk b := by
 intro A c o hp ho hA hc
 unfold DecR
 rw [ndD_eq]
 refine Fn.dropC ?_
 refine fn_of_w (T := []) ho.sv (fun _ => rfl) (fn := Try.f11) (by kernel_rfl) rfl rfl ?_
 refine wo ?_
 first | (apply p_op; exact (vwant_n rfl); iterate 4 exact rfl) | (apply d_op; exact (vwant_n rfl); exact rfl; exact noRd rfl; decide +kernel; (iterate 3 exact rfl); rotate_left) | (apply p_op; exact (vwant_g rfl rfl rfl); iterate 4 exact rfl) | (apply d_op; exact (vwant_g rfl rfl rfl); exact rfl; exact noRd rfl; decide +kernel; (iterate 3 exact rfl); rotate_left)
 refine e_alloc (zc := zNC) (by kernel_rfl) fun b2 => ⟨_, rfl, ?_⟩
 try (case hok => first | exact rdOk_nil | exact rdOk_b (by decide +kernel) | exact rdOk_c | (repeat (first | exact rdOk_e | refine rdOk_d (by decide +kernel) ?_ | refine rdOk_n ?_)))
 refine wo ?_
 by_cases g : 1024 < b.length
 ·rw [if_pos g]
  first | (apply wm; iterate 5 exact rfl) | (apply dm; iterate 6 exact rfl) | (apply wmg; iterate 7 exact rfl) | (apply dmg; iterate 8 exact rfl)
  refine mv_int (v := .b true) rfl rfl (vi_gtrT (by omega))
  refine wo ?_
  first | (apply wn; iterate 5 exact rfl) | (apply dn; iterate 5 exact rfl) | (apply wg; iterate 7 exact rfl) | (apply dg; iterate 7 exact rfl)
  refine p_buildS (C := zNC) .nil (by kernel_rfl)
  first | (apply p_do; exact (vwant_n rfl); exact rfl; exact rfl) | (apply d_do; exact (vwant_n rfl); exact rfl; exact noRd rfl; decide +kernel; exact rfl; rotate_left) | (apply p_do; exact (vwant_g rfl rfl rfl); exact rfl; exact rfl) | (apply d_do; exact (vwant_g rfl rfl rfl); exact rfl; exact noRd rfl; decide +kernel; exact rfl; rotate_left)
  refine e_stn (C' := zNC) rfl rfl zNC_ne zNC_len (Nat.le_of_eq zNC_len.symm) (overV_all rfl) ⟨_, rfl, ?_⟩
  try (case hok => first | exact rdOk_nil | exact rdOk_b (by decide +kernel) | exact rdOk_c | (repeat (first | exact rdOk_e | refine rdOk_d (by decide +kernel) ?_ | refine rdOk_n ?_)))
  refine wo ?_
  exact w_ret (wend_ret (vres2 (rv_cell rfl zNC_len) (rv_tmp rfl)) ⟨[], cle, _, rfl, rfl⟩)
 rw [if_neg g]
 first | (apply wm; iterate 5 exact rfl) | (apply dm; iterate 6 exact rfl) | (apply wmg; iterate 7 exact rfl) | (apply dmg; iterate 8 exact rfl)
 refine mv_int (v := .b false) rfl rfl (vi_gtrF (by omega))
 refine wo ?_
 cases hS : decS b with
 | error x =>
  have hx := decS_ne hS
  have hC : ∀ {L : HV} {hp' : Hp}, SV ⟨hp, []⟩ hp' L → OkH hp' → Fn kxD 28 [.sl A b.length c o] hp' [] fun r N => ∃ u, r = .v u ∧ u = .tup [.agg zI, .i .i64 (x.1 : Nat), .i .i64 (x.2 : Nat)] := fun hs ho => by
   have := decode_d (o := o) ho (hA.give0 hs) hc
   rw [hS] at this
   exact this
  first | (apply p_callY []; exact (vwant_n rfl); iterate 4 exact rfl) | (apply d_callY []; exact (vwant_n rfl); decide +kernel; (iterate 4 exact rfl)) | (apply p_callY []; exact (vwant_g rfl rfl rfl); iterate 4 exact rfl) | (apply d_callY []; exact (vwant_g rfl rfl rfl); decide +kernel; (iterate 4 exact rfl))
  try (case hok => first | exact rdOk_nil | exact rdOk_b (by decide +kernel) | exact rdOk_c)
  case hC => exact (fun hp' hs ht => hC hs hs.ok)
  rintro u N rfl
  refine wo ?_
  first | (apply p_op; exact (vwant_n rfl); iterate 4 exact rfl) | (apply d_op; exact (vwant_n rfl); exact rfl; exact noRd rfl; decide +kernel; (iterate 3 exact rfl); rotate_left) | (apply p_op; exact (vwant_g rfl rfl rfl); iterate 4 exact rfl) | (apply d_op; exact (vwant_g rfl rfl rfl); exact rfl; exact noRd rfl; decide +kernel; (iterate 3 exact rfl); rotate_left)
  refine e_alloc rfl fun b4 => ⟨_, rfl, ?_⟩
  try (case hok => first | exact rdOk_nil | exact rdOk_b (by decide +kernel) | exact rdOk_c | (repeat (first | exact rdOk_e | refine rdOk_d (by decide +kernel) ?_ | refine rdOk_n ?_)))
  first | (apply p_do; exact (vwant_n rfl); exact rfl; exact rfl) | (apply d_do; exact (vwant_n rfl); exact rfl; exact noRd rfl; decide +kernel; exact rfl; rotate_left) | (apply p_do; exact (vwant_g rfl rfl rfl); exact rfl; exact rfl) | (apply d_do; exact (vwant_g rfl rfl rfl); exact rfl; exact noRd rfl; decide +kernel; exact rfl; rotate_left)
  refine e_stn (C' := zI) rfl rfl (by simp) rfl (Nat.le_of_ble_eq_true rfl) rfl ⟨_, rfl, ?_⟩
  try (case hok => first | exact rdOk_nil | exact rdOk_b (by decide +kernel) | exact rdOk_c | (repeat (first | exact rdOk_e | refine rdOk_d (by decide +kernel) ?_ | refine rdOk_n ?_)))
  refine wo ?_
  first | (apply wm; iterate 5 exact rfl) | (apply dm; iterate 6 exact rfl) | (apply wmg; iterate 7 exact rfl) | (apply dmg; iterate 8 exact rfl)
  refine mv_int (v := .b true) rfl rfl (vi_neqT (by omega))
  refine wo ?_
  first | (apply wn; iterate 5 exact rfl) | (apply dn; iterate 5 exact rfl) | (apply wg; iterate 7 exact rfl) | (apply dg; iterate 7 exact rfl)
  refine p_buildS (C := zNC) .nil (by kernel_rfl)
  first | (apply p_do; exact (vwant_n rfl); exact rfl; exact rfl) | (apply d_do; exact (vwant_n rfl); exact rfl; exact noRd rfl; decide +kernel; exact rfl; rotate_left) | (apply p_do; exact (vwant_g rfl rfl rfl); exact rfl; exact rfl) | (apply d_do; exact (vwant_g rfl rfl rfl); exact rfl; exact noRd rfl; decide +kernel; exact rfl; rotate_left)
  refine e_stn (C' := zNC) rfl rfl zNC_ne zNC_len (Nat.le_of_eq zNC_len.symm) (overV_all rfl) ⟨_, rfl, ?_⟩
  try (case hok => first | exact rdOk_nil | exact rdOk_b (by decide +kernel) | exact rdOk_c | (repeat (first | exact rdOk_e | refine rdOk_d (by decide +kernel) ?_ | refine rdOk_n ?_)))
  refine wo ?_
  exact w_ret (wend_ret (vres2 (rv_cell rfl zNC_len) (rv_tmp rfl)) ⟨[], cle, _, rfl, rfl⟩)
 | ok t =>
  have hdt := decS_dep hS
  have hbt := decS_inv hS
  have hC : ∀ {L : HV} {hp' : Hp}, SV ⟨hp, []⟩ hp' L → OkH hp' → Fn kxD 28 [.sl A b.length c o] hp' [] fun r N => ∃ u, r = .v u ∧ ∃ a1 a2 a3, u = .tup [.agg [a1, a2, a3], .i .i64 0, .i .i64 0] ∧ ItX N t [a1, a2, a3] := fun hs ho => by
   have := decode_d (o := o) ho (hA.give0 hs) hc
   rw [hS] at this
   exact this
  dsimp only
  first | (apply p_callY []; exact (vwant_n rfl); iterate 4 exact rfl) | (apply d_callY []; exact (vwant_n rfl); decide +kernel; (iterate 4 exact rfl)) | (apply p_callY []; exact (vwant_g rfl rfl rfl); iterate 4 exact rfl) | (apply d_callY []; exact (vwant_g rfl rfl rfl); decide +kernel; (iterate 4 exact rfl))
  try (case hok => first | exact rdOk_nil | exact rdOk_b (by decide +kernel) | exact rdOk_c)
  case hC => exact (fun hp' hs ht => hC hs hs.ok)
  rintro u N ⟨a1, a2, a3, rfl, hX⟩
  cases t with
  | str bs =>
   rw [ItX, ItP] at hX
   obtain ⟨A1, c1, o1, hv, _, _⟩ := hX
   simp only [List.cons.injEq, and_true] at hv
   obtain ⟨rfl, rfl, rfl⟩ := hv
   refine wo ?_
   first | (apply p_op; exact (vwant_n rfl); iterate 4 exact rfl) | (apply d_op; exact (vwant_n rfl); exact rfl; exact noRd rfl; decide +kernel; (iterate 3 exact rfl); rotate_left) | (apply p_op; exact (vwant_g rfl rfl rfl); iterate 4 exact rfl) | (apply d_op; exact (vwant_g rfl rfl rfl); exact rfl; exact noRd rfl; decide +kernel; (iterate 3 exact rfl); rotate_left)
   refine e_alloc rfl fun b4 => ⟨_, rfl, ?_⟩
   try (case hok => first | exact rdOk_nil | exact rdOk_b (by decide +kernel) | exact rdOk_c | (repeat (first | exact rdOk_e | refine rdOk_d (by decide +kernel) ?_ | refine rdOk_n ?_)))
   first | (apply p_do; exact (vwant_n rfl); exact rfl; exact rfl) | (apply d_do; exact (vwant_n rfl); exact rfl; exact noRd rfl; decide +kernel; exact rfl; rotate_left) | (apply p_do; exact (vwant_g rfl rfl rfl); exact rfl; exact rfl) | (apply d_do; exact (vwant_g rfl rfl rfl); exact rfl; exact noRd rfl; decide +kernel; exact rfl; rotate_left)
   refine e_stn (C' := [.b false, .sl A1 bs.length c1 o1, .sl none 0 0 false]) rfl rfl (by simp) rfl (Nat.le_of_ble_eq_true rfl) rfl ⟨_, rfl, ?_⟩
   try (case hok => first | exact rdOk_nil | exact rdOk_b (by decide +kernel) | exact rdOk_c | (repeat (first | exact rdOk_e | refine rdOk_d (by decide +kernel) ?_ | refine rdOk_n ?_)))
   refine wo ?_
   first | (apply wm; iterate 5 exact rfl) | (apply dm; iterate 6 exact rfl) | (apply wmg; iterate 7 exact rfl) | (apply dmg; iterate 8 exact rfl)
   refine mv_int (v := .b false) rfl rfl (vi_neqF (by omega))
   refine wo ?_
   first | (apply wn; iterate 5 exact rfl) | (apply dn; iterate 5 exact rfl) | (apply wg; iterate 7 exact rfl) | (apply dg; iterate 7 exact rfl)
   refine p_buildS (C := zNC) .nil (by kernel_rfl)
   first | (apply p_do; exact (vwant_n rfl); exact rfl; exact rfl) | (apply d_do; exact (vwant_n rfl); exact rfl; exact noRd rfl; decide +kernel; exact rfl; rotate_left) | (apply p_do; exact (vwant_g rfl rfl rfl); exact rfl; exact rfl) | (apply d_do; exact (vwant_g rfl rfl rfl); exact rfl; exact noRd rfl; decide +kernel; exact rfl; rotate_left)
   refine e_stn (C' := zNC) rfl rfl zNC_ne zNC_len (Nat.le_of_eq zNC_len.symm) (overV_all rfl) ⟨_, rfl, ?_⟩
   try (case hok => first | exact rdOk_nil | exact rdOk_b (by decide +kernel) | exact rdOk_c | (repeat (first | exact rdOk_e | refine rdOk_d (by decide +kernel) ?_ | refine rdOk_n ?_)))
   refine wo ?_
   exact w_ret (wend_ret (vres2 (rv_cell rfl zNC_len) (rv_tmp rfl)) ⟨[], cle, _, rfl, rfl⟩)
  | list l =>
   dsimp only
   rw [ItX, ItP] at hX
   obtain ⟨A1, c1, o1, vs, hv, hPA, hvs⟩ := hX
   simp only [List.cons.injEq, and_true] at hv
   obtain ⟨rfl, rfl, rfl⟩ := hv
   have hpos := headB_pos 192 (encs l).length
   have hbl : (headB 192 (encs l).length).length + (encs l).length = b.length := by
    rw [← hbt, enc, List.length_append]
   have hmem : ∀ x ∈ l, (enc x).length < b.length ∧ (enc x).length ≤ 1048576 ∧ depth x ≤ 80 := fun x hx => by
    have h1 := enc_mem hx
    have h2 := depth_mem hx
    rw [depth] at hdt
    omega
   refine wo ?_
   first | (apply p_op; exact (vwant_n rfl); iterate 4 exact rfl) | (apply d_op; exact (vwant_n rfl); exact rfl; exact noRd rfl; decide +kernel; (iterate 3 exact rfl); rotate_left) | (apply p_op; exact (vwant_g rfl rfl rfl); iterate 4 exact rfl) | (apply d_op; exact (vwant_g rfl rfl rfl); exact rfl; exact noRd rfl; decide +kernel; (iterate 3 exact rfl); rotate_left)
   refine e_alloc rfl fun b4 => ⟨_, rfl, ?_⟩
   try (case hok => first | exact rdOk_nil | exact rdOk_b (by decide +kernel) | exact rdOk_c | (repeat (first | exact rdOk_e | refine rdOk_d (by decide +kernel) ?_ | refine rdOk_n ?_)))
   first | (apply p_do; exact (vwant_n rfl); exact rfl; exact rfl) | (apply d_do; exact (vwant_n rfl); exact rfl; exact noRd rfl; decide +kernel; exact rfl; rotate_left) | (apply p_do; exact (vwant_g rfl rfl rfl); exact rfl; exact rfl) | (apply d_do; exact (vwant_g rfl rfl rfl); exact rfl; exact noRd rfl; decide +kernel; exact rfl; rotate_left)
   refine e_stn (C' := [.b true, .sl none 0 0 false, .sl A1 l.length c1 o1]) rfl rfl (by simp) rfl (Nat.le_of_ble_eq_true rfl) rfl ⟨_, rfl, ?_⟩
   try (case hok => first | exact rdOk_nil | exact rdOk_b (by decide +kernel) | exact rdOk_c | (repeat (first | exact rdOk_e | refine rdOk_d (by decide +kernel) ?_ | refine rdOk_n ?_)))
   refine wOS0 ?_
   refine w_base [(some b4, cellsO [.b true, .sl none 0 0 false, .sl A1 l.length c1 o1] 63), (some b2, cellsO zNC 29)] N (fun hp h => h.perm (List.perm_append_comm.cons _)) fun hp1 hs1 => ?_
   have hB : ∀ B cs, Sn N B cs → RB ⟨hp1, hnds [(some b4, cellsO [.b true, .sl none 0 0 false, .sl A1 l.length c1 o1] 63), (some b2, cellsO zNC 29)]⟩ B cs := fun B cs h => h _ _ _ _ hs1 fun p hp => hp
   have hA1 := hB _ _ hPA
   have hlN : l.length ≤ b.length := by
    have : ∀ l : List It, l.length ≤ (encs l).length := fun l => by
     induction l with
     | nil => exact Nat.zero_le _
     | cons t r ih2 =>
      have := enc_pos t
      rw [encs, List.length_append, List.length_cons]
      omega
    have := this l
    omega
   refine wo ?_
   first | (apply wm; iterate 5 exact rfl) | (apply dm; iterate 6 exact rfl) | (apply wmg; iterate 7 exact rfl) | (apply dmg; iterate 8 exact rfl)
   refine mv_int (v := .b false) rfl rfl (vi_neqF (by omega))
   refine wo ?_
   first | (apply wn; iterate 5 exact rfl) | (apply dn; iterate 5 exact rfl) | (apply wg; iterate 7 exact rfl) | (apply dg; iterate 7 exact rfl)
   refine p_buildS (C := zNC) .nil (by kernel_rfl)
   first | (apply p_op; exact (vwant_n rfl); iterate 4 exact rfl) | (apply d_op; exact (vwant_n rfl); exact rfl; exact noRd rfl; decide +kernel; (iterate 3 exact rfl); rotate_left) | (apply p_op; exact (vwant_g rfl rfl rfl); iterate 4 exact rfl) | (apply d_op; exact (vwant_g rfl rfl rfl); exact rfl; exact noRd rfl; decide +kernel; (iterate 3 exact rfl); rotate_left)
   refine e_alloc (zc := zNC) (by kernel_rfl) fun b7 => ⟨_, rfl, ?_⟩
   try (case hok => first | exact rdOk_nil | exact rdOk_b (by decide +kernel) | exact rdOk_c | (repeat (first | exact rdOk_e | refine rdOk_d (by decide +kernel) ?_ | refine rdOk_n ?_)))
   first | (apply p_do; exact (vwant_n rfl); exact rfl; exact rfl) | (apply d_do; exact (vwant_n rfl); exact rfl; exact noRd rfl; decide +kernel; exact rfl; rotate_left) | (apply p_do; exact (vwant_g rfl rfl rfl); exact rfl; exact rfl) | (apply d_do; exact (vwant_g rfl rfl rfl); exact rfl; exact noRd rfl; decide +kernel; exact rfl; rotate_left)
   refine e_stn (C' := zNC) rfl rfl zNC_ne zNC_len (Nat.le_of_eq zNC_len.symm) (overV_all rfl) ⟨_, rfl, ?_⟩
   try (case hok => first | exact rdOk_nil | exact rdOk_b (by decide +kernel) | exact rdOk_c | (repeat (first | exact rdOk_e | refine rdOk_d (by decide +kernel) ?_ | refine rdOk_n ?_)))
   refine wOS0 ?_
   refine w_cutE (ι := List V × Bool × HV) (fun s => [(8, .b s.2.1), (7, .p (some (b7, 0))), (2, .p (some (b2, 0)))]) (fun s => (some b7, cellsO s.1 29) :: (some b2, cellsO zNC 29) :: s.2.2) (fun s => s.1.length = 582 ∧ ((shapeS l = none ∧ s.2.1 = false) ∨ ∃ n, shapeS l = some n ∧ s.2.1 = true ∧ NodP (fun A _ _ cs => Sn N A cs ∨ Sn s.2.2 A cs) n s.1)) ?_ ?_
   ·refine wo ?_
    by_cases g2 : l.length = 2
    ·obtain ⟨p, x, rfl⟩ : ∃ p x, l = [p, x] := by
      match l, g2 with
      | [p, x], _ => exact ⟨p, x, rfl⟩
     obtain ⟨v0, d0, l0, P0⟩ := itPs_row (i := 0) (t := p) hvs rfl
     obtain ⟨v1, d1, l1, P1⟩ := itPs_row (i := 1) (t := x) hvs rfl
     obtain ⟨ba, oa, rfl⟩ := rb_some3 hA1 d0 l0
     obtain ⟨m1, m2, m3⟩ := hmem p (by simp)
     obtain ⟨m4, m5, m6⟩ := hmem x (by simp)
     first | (apply wm; iterate 5 exact rfl) | (apply dm; iterate 6 exact rfl) | (apply wmg; iterate 7 exact rfl) | (apply dmg; iterate 8 exact rfl)
     refine mv_int (v := .b true) rfl rfl (vi_eqlT (by omega))
     refine wo ?_
     first | (apply wn; iterate 5 exact rfl) | (apply dn; iterate 5 exact rfl) | (apply wg; iterate 7 exact rfl) | (apply dg; iterate 7 exact rfl)
     refine p_ian (i := 0) rfl rfl (by simp)
     first | (apply wm; iterate 5 exact rfl) | (apply dm; iterate 6 exact rfl) | (apply wmg; iterate 7 exact rfl) | (apply dmg; iterate 8 exact rfl)
     refine m_ldnN (j := 0 * 3) (s := 2) rfl hA1.1 hA1.2 rfl d0 l0
     refine wo ?_
     first | (apply wn; iterate 5 exact rfl) | (apply dn; iterate 5 exact rfl) | (apply wg; iterate 7 exact rfl) | (apply dg; iterate 7 exact rfl)
     refine p_ian (i := 1) rfl rfl (by simp)
     first | (apply wm; iterate 5 exact rfl) | (apply dm; iterate 6 exact rfl) | (apply wmg; iterate 7 exact rfl) | (apply dmg; iterate 8 exact rfl)
     refine m_ldnN (j := 1 * 3) (s := 2) rfl hA1.1 hA1.2 rfl d1 l1
     cases hsh : shapeS [p, x] with
     | none =>
      first | (apply p_callY []; exact (vwant_n rfl); iterate 4 exact rfl) | (apply d_callY []; exact (vwant_n rfl); decide +kernel; (iterate 4 exact rfl)) | (apply p_callY []; exact (vwant_g rfl rfl rfl); iterate 4 exact rfl) | (apply d_callY []; exact (vwant_g rfl rfl rfl); decide +kernel; (iterate 4 exact rfl))
      try (case hok => first | exact rdOk_nil | exact rdOk_b (by decide +kernel) | exact rdOk_c)
      case hC => exact (fun hp' hs ht => ShortNo hsh hs.ok P0 P1 (fun A cs h => (hB A cs h).give0 hs) Sn.nil (itB_enc p m2) m5 m6)
      rintro u N1 ⟨w, rfl, hw⟩
      refine wo ?_
      first | (apply p_do; exact (vwant_n rfl); exact rfl; exact rfl) | (apply d_do; exact (vwant_n rfl); exact rfl; exact noRd rfl; decide +kernel; exact rfl; rotate_left) | (apply p_do; exact (vwant_g rfl rfl rfl); exact rfl; exact rfl) | (apply d_do; exact (vwant_g rfl rfl rfl); exact rfl; exact noRd rfl; decide +kernel; exact rfl; rotate_left)
      refine e_stn (C' := w) rfl rfl (ne_of_len hw (by decide)) hw (Nat.le_of_eq zNC_len.symm) (overV_all (hw.trans zNC_len.symm)) ⟨_, rfl, ?_⟩
      try (case hok => first | exact rdOk_nil | exact rdOk_b (by decide +kernel) | exact rdOk_c | (repeat (first | exact rdOk_e | refine rdOk_d (by decide +kernel) ?_ | refine rdOk_n ?_)))
      refine wo ?_
      exact ⟨(w, false, N1), ⟨hw, .inl ⟨rfl, rfl⟩⟩, rfl, ⟨rfl, rfl, rfl, trivial⟩, fun hp h => h.le⟩
     | some n =>
      first | (apply p_callY []; exact (vwant_n rfl); iterate 4 exact rfl) | (apply d_callY []; exact (vwant_n rfl); decide +kernel; (iterate 4 exact rfl)) | (apply p_callY []; exact (vwant_g rfl rfl rfl); iterate 4 exact rfl) | (apply d_callY []; exact (vwant_g rfl rfl rfl); decide +kernel; (iterate 4 exact rfl))
      try (case hok => first | exact rdOk_nil | exact rdOk_b (by decide +kernel) | exact rdOk_c)
      case hC => exact (fun hp' hs ht => ShortOk hsh hs.ok P0 P1 (fun A cs h => (hB A cs h).give0 hs) Sn.nil (itB_enc p m2) m5 m6)
      rintro u N1 ⟨w, rfl, hw⟩
      have hwl := hw.len
      refine wo ?_
      first | (apply p_do; exact (vwant_n rfl); exact rfl; exact rfl) | (apply d_do; exact (vwant_n rfl); exact rfl; exact noRd rfl; decide +kernel; exact rfl; rotate_left) | (apply p_do; exact (vwant_g rfl rfl rfl); exact rfl; exact rfl) | (apply d_do; exact (vwant_g rfl rfl rfl); exact rfl; exact noRd rfl; decide +kernel; exact rfl; rotate_left)
      refine e_stn (C' := w) rfl rfl (ne_of_len hwl (by decide)) hwl (Nat.le_of_eq zNC_len.symm) (overV_all (hwl.trans zNC_len.symm)) ⟨_, rfl, ?_⟩
      try (case hok => first | exact rdOk_nil | exact rdOk_b (by decide +kernel) | exact rdOk_c | (repeat (first | exact rdOk_e | refine rdOk_d (by decide +kernel) ?_ | refine rdOk_n ?_)))
      refine wo ?_
      exact ⟨(w, true, N1), ⟨hwl, .inr ⟨n, rfl, rfl, hw⟩⟩, rfl, ⟨rfl, rfl, rfl, trivial⟩, fun hp h => h.le⟩
    first | (apply wm; iterate 5 exact rfl) | (apply dm; iterate 6 exact rfl) | (apply wmg; iterate 7 exact rfl) | (apply dmg; iterate 8 exact rfl)
    refine mv_int (v := .b false) rfl rfl (vi_eqlF (by omega))
    refine wo ?_
    by_cases g17 : l.length = 17
    ·first | (apply wm; iterate 5 exact rfl) | (apply dm; iterate 6 exact rfl) | (apply wmg; iterate 7 exact rfl) | (apply dmg; iterate 8 exact rfl)
     refine mv_int (v := .b true) rfl rfl (vi_eqlT (by omega))
     refine wo ?_
     cases hsh : shapeS l with
     | none =>
      first | (apply p_callY []; exact (vwant_n rfl); iterate 4 exact rfl) | (apply d_callY []; exact (vwant_n rfl); decide +kernel; (iterate 4 exact rfl)) | (apply p_callY []; exact (vwant_g rfl rfl rfl); iterate 4 exact rfl) | (apply d_callY []; exact (vwant_g rfl rfl rfl); decide +kernel; (iterate 4 exact rfl))
      try (case hok => first | exact rdOk_nil | exact rdOk_b (by decide +kernel) | exact rdOk_c)
      case hC => exact (fun hp' hs ht => BranchNo hsh hs.ok hPA hvs (fun A cs h => (hB A cs h).give0 hs) Sn.nil g17 (fun t ht => (hmem t ht).2))
      rintro u N1 ⟨w, rfl, hw⟩
      refine wo ?_
      first | (apply p_do; exact (vwant_n rfl); exact rfl; exact rfl) | (apply d_do; exact (vwant_n rfl); exact rfl; exact noRd rfl; decide +kernel; exact rfl; rotate_left) | (apply p_do; exact (vwant_g rfl rfl rfl); exact rfl; exact rfl) | (apply d_do; exact (vwant_g rfl rfl rfl); exact rfl; exact noRd rfl; decide +kernel; exact rfl; rotate_left)
      refine e_stn (C' := w) rfl rfl (ne_of_len hw (by decide)) hw (Nat.le_of_eq zNC_len.symm) (overV_all (hw.trans zNC_len.symm)) ⟨_, rfl, ?_⟩
      try (case hok => first | exact rdOk_nil | exact rdOk_b (by decide +kernel) | exact rdOk_c | (repeat (first | exact rdOk_e | refine rdOk_d (by decide +kernel) ?_ | refine rdOk_n ?_)))
      refine wo ?_
      exact ⟨(w, false, N1), ⟨hw, .inl ⟨rfl, rfl⟩⟩, rfl, ⟨rfl, rfl, rfl, trivial⟩, fun hp h => h.le⟩
     | some n =>
      first | (apply p_callY []; exact (vwant_n rfl); iterate 4 exact rfl) | (apply d_callY []; exact (vwant_n rfl); decide +kernel; (iterate 4 exact rfl)) | (apply p_callY []; exact (vwant_g rfl rfl rfl); iterate 4 exact rfl) | (apply d_callY []; exact (vwant_g rfl rfl rfl); decide +kernel; (iterate 4 exact rfl))
      try (case hok => first | exact rdOk_nil | exact rdOk_b (by decide +kernel) | exact rdOk_c)
      case hC => exact (fun hp' hs ht => BranchOk hsh hs.ok hPA hvs (fun A cs h => (hB A cs h).give0 hs) Sn.nil g17 (fun t ht => (hmem t ht).2))
      rintro u N1 ⟨w, rfl, hw⟩
      have hwl := hw.len
      refine wo ?_
      first | (apply p_do; exact (vwant_n rfl); exact rfl; exact rfl) | (apply d_do; exact (vwant_n rfl); exact rfl; exact noRd rfl; decide +kernel; exact rfl; rotate_left) | (apply p_do; exact (vwant_g rfl rfl rfl); exact rfl; exact rfl) | (apply d_do; exact (vwant_g rfl rfl rfl); exact rfl; exact noRd rfl; decide +kernel; exact rfl; rotate_left)
      refine e_stn (C' := w) rfl rfl (ne_of_len hwl (by decide)) hwl (Nat.le_of_eq zNC_len.symm) (overV_all (hwl.trans zNC_len.symm)) ⟨_, rfl, ?_⟩
      try (case hok => first | exact rdOk_nil | exact rdOk_b (by decide +kernel) | exact rdOk_c | (repeat (first | exact rdOk_e | refine rdOk_d (by decide +kernel) ?_ | refine rdOk_n ?_)))
      refine wo ?_
      exact ⟨(w, true, N1), ⟨hwl, .inr ⟨n, rfl, rfl, hw⟩⟩, rfl, ⟨rfl, rfl, rfl, trivial⟩, fun hp h => h.le⟩
    ·first | (apply wm; iterate 5 exact rfl) | (apply dm; iterate 6 exact rfl) | (apply wmg; iterate 7 exact rfl) | (apply dmg; iterate 8 exact rfl)
     refine mv_int (v := .b false) rfl rfl (vi_eqlF (by omega))
     refine wo ?_
     exact ⟨(zNC, false, []), ⟨zNC_len, .inl ⟨shape_two g2 g17, rfl⟩⟩, rfl, ⟨rfl, rfl, rfl, trivial⟩, fun hp h => h.le⟩
   rintro ⟨w, ok, X⟩ ⟨hwl, hcase⟩
   dsimp only at hwl hcase ⊢
   rcases hcase with ⟨hsh, rfl⟩ | ⟨n, hsh, rfl, hw⟩
   ·rw [hsh]
    refine wo ?_
    first | (apply wn; iterate 5 exact rfl) | (apply dn; iterate 5 exact rfl) | (apply wg; iterate 7 exact rfl) | (apply dg; iterate 7 exact rfl)
    refine p_buildS (C := zNC) .nil (by kernel_rfl)
    first | (apply p_do; exact (vwant_n rfl); exact rfl; exact rfl) | (apply d_do; exact (vwant_n rfl); exact rfl; exact noRd rfl; decide +kernel; exact rfl; rotate_left) | (apply p_do; exact (vwant_g rfl rfl rfl); exact rfl; exact rfl) | (apply d_do; exact (vwant_g rfl rfl rfl); exact rfl; exact noRd rfl; decide +kernel; exact rfl; rotate_left)
    refine e_stn (C' := zNC) rfl rfl zNC_ne zNC_len (Nat.le_of_eq zNC_len.symm) (overV_all rfl) ⟨_, rfl, ?_⟩
    try (case hok => first | exact rdOk_nil | exact rdOk_b (by decide +kernel) | exact rdOk_c | (repeat (first | exact rdOk_e | refine rdOk_d (by decide +kernel) ?_ | refine rdOk_n ?_)))
    refine wo ?_
    exact w_ret (wend_ret (vres2 (rv_cell rfl zNC_len) (rv_tmp rfl)) ⟨[], cle, _, rfl, rfl⟩)
   ·rw [hsh]
    dsimp only
    have hD : ∀ r, (r = n.next ∨ r ∈ n.kids) → r.k = 2 → bareS r = true → DecOk r.n := fun r hr hk _ => by
     obtain ⟨x, hx, he⟩ := shape_refs hsh r hr hk
     exact ih _ (by rw [he]; exact (hmem x hx).1)
    refine wo ?_
    first | refine zX (m_ldln (s := 581) (cs := w) rfl (all_take _ hwl) hwl) ?_ | refine yX (m_ldln (s := 581) (cs := w) rfl (all_take _ hwl) hwl) ?_
    first | refine p_callq (vwant_n rfl) rfl rfl rfl rfl (fun hp' hs => may_k hs.ok (hw.mono fun A c o cs h => h.elim (fun h => (hB _ _ h).give0 hs) fun h => h _ _ [] _ hs fun p hp => List.mem_cons_of_mem _ (List.mem_cons_of_mem _ hp)) hD) ?_ | refine d_callq (vwant_n rfl) (by decide +kernel) rfl rfl rfl rfl (fun hp' hs => may_k hs.ok (hw.mono fun A c o cs h => h.elim (fun h => (hB _ _ h).give0 hs) fun h => h _ _ [] _ hs fun p hp => List.mem_cons_of_mem _ (List.mem_cons_of_mem _ hp)) hD) ?_ | refine d_callq0 (vwant_n rfl) (by decide +kernel) rfl rfl rfl rfl (fun hp' hs => may_k hs.ok (hw.mono fun A c o cs h => h.elim (fun h => (hB _ _ h).give0 hs) fun h => h _ _ [] _ hs fun p hp => List.mem_cons_of_mem _ (List.mem_cons_of_mem _ hp)) hD) ?_ | refine p_callq (vwant_g rfl rfl rfl) rfl rfl rfl rfl (fun hp' hs => may_k hs.ok (hw.mono fun A c o cs h => h.elim (fun h => (hB _ _ h).give0 hs) fun h => h _ _ [] _ hs fun p hp => List.mem_cons_of_mem _ (List.mem_cons_of_mem _ hp)) hD) ?_ | refine d_callq (vwant_g rfl rfl rfl) (by decide +kernel) rfl rfl rfl rfl (fun hp' hs => may_k hs.ok (hw.mono fun A c o cs h => h.elim (fun h => (hB _ _ h).give0 hs) fun h => h _ _ [] _ hs fun p hp => List.mem_cons_of_mem _ (List.mem_cons_of_mem _ hp)) hD) ?_ | refine d_callq0 (vwant_g rfl rfl rfl) (by decide +kernel) rfl rfl rfl rfl (fun hp' hs => may_k hs.ok (hw.mono fun A c o cs h => h.elim (fun h => (hB _ _ h).give0 hs) fun h => h _ _ [] _ hs fun p hp => List.mem_cons_of_mem _ (List.mem_cons_of_mem _ hp)) hD) ?_
    cases hm : mayS ndD n with
    | false =>
     refine wo ?_
     first | (apply wn; iterate 5 exact rfl) | (apply dn; iterate 5 exact rfl) | (apply wg; iterate 7 exact rfl) | (apply dg; iterate 7 exact rfl)
     refine p_buildS (C := zNC) .nil (by kernel_rfl)
     first | (apply p_do; exact (vwant_n rfl); exact rfl; exact rfl) | (apply d_do; exact (vwant_n rfl); exact rfl; exact noRd rfl; decide +kernel; exact rfl; rotate_left) | (apply p_do; exact (vwant_g rfl rfl rfl); exact rfl; exact rfl) | (apply d_do; exact (vwant_g rfl rfl rfl); exact rfl; exact noRd rfl; decide +kernel; exact rfl; rotate_left)
     refine e_stn (C' := zNC) rfl rfl zNC_ne zNC_len (Nat.le_of_eq zNC_len.symm) (overV_all rfl) ⟨_, rfl, ?_⟩
     try (case hok => first | exact rdOk_nil | exact rdOk_b (by decide +kernel) | exact rdOk_c | (repeat (first | exact rdOk_e | refine rdOk_d (by decide +kernel) ?_ | refine rdOk_n ?_)))
     refine wo ?_
     exact w_ret (wend_ret (vres2 (rv_cell rfl zNC_len) (rv_tmp rfl)) ⟨[], cle, by rw [if_neg (by simp)]; exact ⟨_, rfl, rfl⟩⟩)
    | true =>
     refine wo ?_
     first | refine zX (m_ldln (s := 581) (cs := w) rfl (all_take _ hwl) hwl) ?_ | refine yX (m_ldln (s := 581) (cs := w) rfl (all_take _ hwl) hwl) ?_
     first | (apply p_do; exact (vwant_n rfl); exact rfl; exact rfl) | (apply d_do; exact (vwant_n rfl); exact rfl; exact noRd rfl; decide +kernel; exact rfl; rotate_left) | (apply p_do; exact (vwant_g rfl rfl rfl); exact rfl; exact rfl) | (apply d_do; exact (vwant_g rfl rfl rfl); exact rfl; exact noRd rfl; decide +kernel; exact rfl; rotate_left)
     refine e_stn (C' := w) rfl rfl (ne_of_len hwl (by decide)) hwl (Nat.le_of_eq zNC_len.symm) (overV_all (hwl.trans zNC_len.symm)) ⟨_, rfl, ?_⟩
     try (case hok => first | exact rdOk_nil | exact rdOk_b (by decide +kernel) | exact rdOk_c | (repeat (first | exact rdOk_e | refine rdOk_d (by decide +kernel) ?_ | refine rdOk_n ?_)))
     refine wo ?_
     exact w_ret (wend_ret (vres2 (rv_cell rfl hwl) (rv_tmp rfl)) ⟨X ++ N, cle, by
      rw [if_pos rfl]
      exact ⟨_, rfl, _, rfl, hw.mono fun A c o cs h => h.elim (fun h => h.mono fun p hp => List.mem_append_right _ hp) fun h => h.mono fun p hp => List.mem_append_left _ hp⟩⟩)
theorem decOk (b : List UInt8) : DecOk b := by
 have : ∀ (m : Nat) (b : List UInt8), b.length = m → DecOk b := by
  intro m
  induction m using Nat.strongRecOn with
  | ind m ih => exact fun b hb => decode_k fun b' h => ih _ (by omega) b' rfl
 exact this _ b rfl
theorem ndecode_no {A : Option (Nat × Nat)} {b : List UInt8} {c : Nat} {o : Bool} {hp : Hp} (h0 : ndD b = none) (ho : OkH hp) (hA : RB ⟨hp, []⟩ A (b.map byV)) (hc : b.length ≤ c) : Fn kxD 11 [.sl A b.length c o] hp [] fun r N => ∃ u, r = .v u ∧ u = .tup [.agg zNC, .i .i64 70] := (decOk b).none h0 ho hA hc
theorem ndecode_ok {A : Option (Nat × Nat)} {b : List UInt8} {n : NodS} {c : Nat} {o : Bool} {hp : Hp} (h0 : ndD b = some n) (ho : OkH hp) (hA : RB ⟨hp, []⟩ A (b.map byV)) (hc : b.length ≤ c) : Fn kxD 11 [.sl A b.length c o] hp [] fun r N => ∃ u, r = .v u ∧ ∃ w, u = .tup [.agg w, .i .i64 0] ∧ NodP (snP N) n w := (decOk b).some h0 ho hA hc
theorem ncheck_d {n : NodS} {w : List V} {hp : Hp} (ho : OkH hp) (hn : NodP (rbP ⟨hp, []⟩) n w) : Fn kxD 14 [.agg w] hp [] fun q _ => q = .v (.i .i64 (if mayS ndD n = true then 0 else 70)) := check_k ho hn fun _ _ _ _ => decOk _
theorem nencode_no {n : NodS} {w : List V} {hp : Hp} (hm : mayS ndD n = false) (ho : OkH hp) (hn : NodP (rbP ⟨hp, []⟩) n w) : Fn kxD 8 [.agg w] hp [] fun q N => ∃ u, q = .v u ∧ u = .tup [.sl none 0 0 false, .i .i64 70] := by
 have := nencode_k ho hn fun _ _ _ _ => decOk _
 simp only [hm, Bool.false_eq_true, if_false] at this
 exact this
theorem nencode_ok {n : NodS} {w : List V} {hp : Hp} (hm : mayS ndD n = true) (ho : OkH hp) (hn : NodP (rbP ⟨hp, []⟩) n w) : Fn kxD 8 [.agg w] hp [] fun q N => ∃ u, q = .v u ∧ ∃ w', u = .tup [w', .i .i64 0] ∧ RowK (ndB n) w' N := by
 have := nencode_k ho hn fun _ _ _ _ => decOk _
 simp only [hm, if_true] at this
 exact this
/- Nm1: the statements' Same, num, known. By this project. -/
section
variable {K : Kx} {hp0 : Bs} {l : VL} {L : HV} {a b : Operand} {t t' : TypeId}
end
open Classical in
noncomputable def sameR (r r' : RefS) : Bool := decide (r = r')
open Classical in
noncomputable def sameN (n m : NodS) : Bool := decide (n = m)
open Classical in
theorem sameR_t {r r' : RefS} (h : r = r') : sameR r r' = true := decide_eq_true h
open Classical in
theorem sameR_f {r r' : RefS} (h : r ≠ r') : sameR r r' = false := decide_eq_false h
open Classical in
theorem sameN_t {r r' : NodS} (h : r = r') : sameN r r' = true := decide_eq_true h
open Classical in
theorem sameN_f {r r' : NodS} (h : r ≠ r') : sameN r r' = false := decide_eq_false h
theorem num_d {e : Int} {hp : Hp} (ho : OkH hp) : Fn kxD 9 [.i .i64 e] hp [] fun r _ => r = .v (.i .i64 e) := by
 refine fn_of_w (T := []) ho.sv (fun _ => rfl) (fn := Try.f9) (by kernel_rfl) rfl rfl ?_
 refine wo ?_
 exact w_ret (wend_ret (vres1 (rv_tmp rfl)) rfl)
set_option maxHeartbeats 8000000 in
theorem sameref2_d {P P' : PP} {r r' : RefS} {w w' : List V} {hp : Hp} (ho : OkH hp) (hr : RefP P r w) (hr' : RefP P' r' w') (hP : ∀ A c o cs, P A c o cs → RB ⟨hp, []⟩ A cs) (hP' : ∀ A c o cs, P' A c o cs → RB ⟨hp, []⟩ A cs) :
  Fn kxD 37 [.agg w, .agg w'] hp [] fun q _ => q = .v (.b (sameR r r')) := by
 obtain ⟨hh, A, c, o, hw, hA, _⟩ := hr
 obtain ⟨hh', A', c', o', hw', hA', _⟩ := hr'
 subst hw hw'
 have hB := hP _ _ _ _ hA
 have hB' := hP' _ _ _ _ hA'
 refine fn_of_w (T := []) ho.sv (fun _ => rfl) (fn := Try.f37) (by kernel_rfl) rfl rfl ?_
 refine wo ?_
 first | (apply p_op; exact (vwant_n rfl); iterate 4 exact rfl) | (apply d_op; exact (vwant_n rfl); exact rfl; exact noRd rfl; decide +kernel; (iterate 3 exact rfl); rotate_left) | (apply p_op; exact (vwant_g rfl rfl rfl); iterate 4 exact rfl) | (apply d_op; exact (vwant_g rfl rfl rfl); exact rfl; exact noRd rfl; decide +kernel; (iterate 3 exact rfl); rotate_left)
 refine ev_box rfl rfl fun ba => ⟨_, rfl, ?_⟩
 try (case hok => first | exact rdOk_nil | exact rdOk_b (by decide +kernel) | exact rdOk_c | (repeat (first | exact rdOk_e | refine rdOk_d (by decide +kernel) ?_ | refine rdOk_n ?_)))
 first | (apply p_op; exact (vwant_n rfl); iterate 4 exact rfl) | (apply d_op; exact (vwant_n rfl); exact rfl; exact noRd rfl; decide +kernel; (iterate 3 exact rfl); rotate_left) | (apply p_op; exact (vwant_g rfl rfl rfl); iterate 4 exact rfl) | (apply d_op; exact (vwant_g rfl rfl rfl); exact rfl; exact noRd rfl; decide +kernel; (iterate 3 exact rfl); rotate_left)
 refine ev_box rfl rfl fun bb => ⟨_, rfl, ?_⟩
 try (case hok => first | exact rdOk_nil | exact rdOk_b (by decide +kernel) | exact rdOk_c | (repeat (first | exact rdOk_e | refine rdOk_d (by decide +kernel) ?_ | refine rdOk_n ?_)))
 refine wo ?_
 by_cases k : r.k = r'.k
 rotate_left
 ·first | (apply wm; iterate 5 exact rfl) | (apply dm; iterate 6 exact rfl) | (apply wmg; iterate 7 exact rfl) | (apply dmg; iterate 8 exact rfl)
  refine mv_int (v := .b false) rfl rfl (vi_eqlF (k))
  refine wo ?_
  exact w_ret (wend_ret (vres1 (rv_tmp rfl)) (by rw [sameR_f (fun e => k (by rw [e]))]))
 first | (apply wm; iterate 5 exact rfl) | (apply dm; iterate 6 exact rfl) | (apply wmg; iterate 7 exact rfl) | (apply dmg; iterate 8 exact rfl)
 refine mv_int (v := .b true) rfl rfl (vi_eqlT (k))
 refine wo ?_
 first | refine zX (m_ldln (s := 31) (cs := r.h.map byV) rfl (refC_hash hh) (by rw [List.length_map, hh])) ?_ | refine yX (m_ldln (s := 31) (cs := r.h.map byV) rfl (refC_hash hh) (by rw [List.length_map, hh])) ?_
 refine wo ?_
 first | refine zX (m_ldln (s := 31) (cs := r'.h.map byV) rfl (refC_hash hh') (by rw [List.length_map, hh'])) ?_ | refine yX (m_ldln (s := 31) (cs := r'.h.map byV) rfl (refC_hash hh') (by rw [List.length_map, hh'])) ?_
 first | (apply wm; iterate 5 exact rfl) | (apply dm; iterate 6 exact rfl) | (apply wmg; iterate 7 exact rfl) | (apply dmg; iterate 8 exact rfl)
 refine m_eqA rfl rfl rfl hh hh'
 by_cases kh : r.h = r'.h
 rotate_left
 ·rw [decide_eq_false kh]
  refine wo ?_
  exact w_ret (wend_ret (vres1 (rv_tmp rfl)) (by rw [sameR_f (fun e => kh (by rw [e]))]))
 rw [decide_eq_true kh]
 refine wo ?_
 first | refine zX (m_ldl rfl (refC_node hh)) ?_ | refine yX (m_ldl rfl (refC_node hh)) ?_
 first | (apply wm; iterate 5 exact rfl) | (apply dm; iterate 6 exact rfl) | (apply wmg; iterate 7 exact rfl) | (apply dmg; iterate 8 exact rfl)
 refine m_b2so rfl hB.1 hB.2
 refine wo ?_
 first | refine zX (m_ldl rfl (refC_node hh')) ?_ | refine yX (m_ldl rfl (refC_node hh')) ?_
 first | (apply wm; iterate 5 exact rfl) | (apply dm; iterate 6 exact rfl) | (apply wmg; iterate 7 exact rfl) | (apply dmg; iterate 8 exact rfl)
 refine m_b2so rfl hB'.1 hB'.2
 first | (apply wm; iterate 5 exact rfl) | (apply dm; iterate 6 exact rfl) | (apply wmg; iterate 7 exact rfl) | (apply dmg; iterate 8 exact rfl)
 refine m_eqs rfl rfl
 have e : (r.n == r'.n) = sameR r r' := by
  by_cases kn : r.n = r'.n
  ·rw [beq_iff_eq.2 kn, sameR_t]
   obtain ⟨a1, a2, a3⟩ := r
   obtain ⟨b1, b2, b3⟩ := r'
   simp only at k kh kn
   rw [k, kh, kn]
  ·rw [beq_eq_false_iff_ne.2 kn, sameR_f (fun e => kn (by rw [e]))]
 rw [e]
 refine wo ?_
 exact w_ret (wend_ret (vres1 (rv_tmp rfl)) rfl)
theorem kid_at {P : PP} {n : NodS} {w : List V} (hn : NodP P n w) {i : Nat} (hi : i < 16) : ∃ r x, n.kids[i]? = some r ∧ (w.drop (0 + 38 + i * 34)).take 34 = x ∧ RefP P r x := by
 obtain ⟨h0, A, c, o, A', c', o', nx, ks, rfl, _, _, _, _, hnx, hks⟩ := hn
 obtain ⟨x, h1, _, h2⟩ := nodC_kid (n := n) (p := .sl A n.path.length c o) (v := .sl A' n.val.length c' o') hnx.len hks (i := i) (by omega)
 exact ⟨n.kids[i]'(by omega), x, List.getElem?_eq_getElem (by omega), h1, h2⟩
theorem take_all2 {α : Type} {a b : List α} {i : Nat} (h : a.take i = b.take i) {x : α} (ha : a[i]? = some x) (hb : b[i]? = some x) : a.take (i + 1) = b.take (i + 1) := by
 obtain ⟨h1, h2⟩ := List.getElem?_eq_some_iff.1 ha
 obtain ⟨h3, h4⟩ := List.getElem?_eq_some_iff.1 hb
 rw [List.take_succ_eq_append_getElem h1, List.take_succ_eq_append_getElem h3, h, h2, h4]
set_option maxHeartbeats 16000000 in
theorem nsame_d {P P' : PP} {n m : NodS} {w w' : List V} {hp : Hp} (ho : OkH hp) (hn : NodP P n w) (hm : NodP P' m w') (hP : ∀ A c o cs, P A c o cs → RB ⟨hp, []⟩ A cs) (hP' : ∀ A c o cs, P' A c o cs → RB ⟨hp, []⟩ A cs) :
  Fn kxD 17 [.agg w, .agg w'] hp [] fun q _ => q = .v (.b (sameN n m)) := by
 have hl := hn.len
 have hl' := hm.len
 have hk16 := hn.1
 have hk16' := hm.1
 have hkid := fun {i : Nat} (h : i < 16) => kid_at hn h
 have hkid' := fun {i : Nat} (h : i < 16) => kid_at hm h
 obtain ⟨_, A, c, o, A2, c2, o2, nx, ks, hw, p1, _, p2, _, hnx, _⟩ := hn
 obtain ⟨_, A', c', o', A2', c2', o2', nx', ks', hw', p1', _, p2', _, hnx', _⟩ := hm
 have hB1 := hP _ _ _ _ p1
 have hB2 := hP _ _ _ _ p2
 have hB1' := hP' _ _ _ _ p1'
 have hB2' := hP' _ _ _ _ p2'
 have e0 : w[0 + 0]? = some (.i .i64 n.k) := by rw [hw]; rfl
 have e1 : w[0 + 1]? = some (.sl A n.path.length c o) := by rw [hw]; rfl
 have e2 : w[0 + 2]? = some (.sl A2 n.val.length c2 o2) := by rw [hw]; rfl
 have e3 : w[0 + 3]? = some (.b n.full) := by rw [hw]; rfl
 have e4 : (w.drop (0 + 4)).take 34 = nx := by rw [hw]; exact nodC_next hnx.len
 have e0' : w'[0 + 0]? = some (.i .i64 m.k) := by rw [hw']; rfl
 have e1' : w'[0 + 1]? = some (.sl A' m.path.length c' o') := by rw [hw']; rfl
 have e2' : w'[0 + 2]? = some (.sl A2' m.val.length c2' o2') := by rw [hw']; rfl
 have e3' : w'[0 + 3]? = some (.b m.full) := by rw [hw']; rfl
 have e4' : (w'.drop (0 + 4)).take 34 = nx' := by rw [hw']; exact nodC_next hnx'.len
 clear hw hw'
 refine fn_of_w (T := []) ho.sv (fun _ => rfl) (fn := Try.f17) (by kernel_rfl) rfl rfl ?_
 refine wo ?_
 first | (apply p_op; exact (vwant_n rfl); iterate 4 exact rfl) | (apply d_op; exact (vwant_n rfl); exact rfl; exact noRd rfl; decide +kernel; (iterate 3 exact rfl); rotate_left) | (apply p_op; exact (vwant_g rfl rfl rfl); iterate 4 exact rfl) | (apply d_op; exact (vwant_g rfl rfl rfl); exact rfl; exact noRd rfl; decide +kernel; (iterate 3 exact rfl); rotate_left)
 refine ev_box rfl rfl fun ba => ⟨_, rfl, ?_⟩
 try (case hok => first | exact rdOk_nil | exact rdOk_b (by decide +kernel) | exact rdOk_c | (repeat (first | exact rdOk_e | refine rdOk_d (by decide +kernel) ?_ | refine rdOk_n ?_)))
 first | (apply p_op; exact (vwant_n rfl); iterate 4 exact rfl) | (apply d_op; exact (vwant_n rfl); exact rfl; exact noRd rfl; decide +kernel; (iterate 3 exact rfl); rotate_left) | (apply p_op; exact (vwant_g rfl rfl rfl); iterate 4 exact rfl) | (apply d_op; exact (vwant_g rfl rfl rfl); exact rfl; exact noRd rfl; decide +kernel; (iterate 3 exact rfl); rotate_left)
 refine ev_box rfl rfl fun bb => ⟨_, rfl, ?_⟩
 try (case hok => first | exact rdOk_nil | exact rdOk_b (by decide +kernel) | exact rdOk_c | (repeat (first | exact rdOk_e | refine rdOk_d (by decide +kernel) ?_ | refine rdOk_n ?_)))
 refine wOS0 ?_
 refine w_cutS [(3, .p (some (bb, 0))), (2, .p (some (ba, 0)))] [(some bb, cellsO w' 29), (some ba, cellsO w 29)] (n.k = m.k ∧ n.full = m.full ∧ n.path = m.path ∧ n.val = m.val ∧ n.next = m.next) ?_ fun hC => ?_
 ·refine wo ?_
  first | refine zX (m_ldl rfl e0) ?_ | refine yX (m_ldl rfl e0) ?_
  refine wo ?_
  first | refine zX (m_ldl rfl e0') ?_ | refine yX (m_ldl rfl e0') ?_
  by_cases k1 : n.k = m.k
  rotate_left
  ·first | (apply wm; iterate 5 exact rfl) | (apply dm; iterate 6 exact rfl) | (apply wmg; iterate 7 exact rfl) | (apply dmg; iterate 8 exact rfl)
   refine mv_int (v := .b true) rfl rfl (vi_neqT (k1))
   refine wo ?_
   exact w_ret (wend_ret (vres1 (rv_tmp rfl)) (by rw [sameN_f (fun e => k1 (by rw [e]))]))
  first | (apply wm; iterate 5 exact rfl) | (apply dm; iterate 6 exact rfl) | (apply wmg; iterate 7 exact rfl) | (apply dmg; iterate 8 exact rfl)
  refine mv_int (v := .b false) rfl rfl (vi_neqF (k1))
  refine wo ?_
  first | refine zX (m_ldl rfl e3) ?_ | refine yX (m_ldl rfl e3) ?_
  refine wo ?_
  first | refine zX (m_ldl rfl e3') ?_ | refine yX (m_ldl rfl e3') ?_
  first | (apply wm; iterate 5 exact rfl) | (apply dm; iterate 6 exact rfl) | (apply wmg; iterate 7 exact rfl) | (apply dmg; iterate 8 exact rfl)
  refine m_neqb rfl rfl rfl
  cases k2 : (!(n.full == m.full)) with
  | true =>
   refine wo ?_
   exact w_ret (wend_ret (vres1 (rv_tmp rfl)) (by rw [sameN_f (fun e => by rw [e] at k2; simp at k2)]))
  | false =>
  have k2' : n.full = m.full := by simpa using k2
  refine wo ?_
  first | refine zX (m_ldl rfl e1) ?_ | refine yX (m_ldl rfl e1) ?_
  first | (apply wm; iterate 5 exact rfl) | (apply dm; iterate 6 exact rfl) | (apply wmg; iterate 7 exact rfl) | (apply dmg; iterate 8 exact rfl)
  refine m_b2so rfl hB1.1 hB1.2
  refine wo ?_
  first | refine zX (m_ldl rfl e1') ?_ | refine yX (m_ldl rfl e1') ?_
  first | (apply wm; iterate 5 exact rfl) | (apply dm; iterate 6 exact rfl) | (apply wmg; iterate 7 exact rfl) | (apply dmg; iterate 8 exact rfl)
  refine m_b2so rfl hB1'.1 hB1'.2
  first | (apply wm; iterate 5 exact rfl) | (apply dm; iterate 6 exact rfl) | (apply wmg; iterate 7 exact rfl) | (apply dmg; iterate 8 exact rfl)
  refine m_neqs rfl rfl
  by_cases k3 : n.path = m.path
  rotate_left
  ·rw [show (!(n.path == m.path)) = true by simp [k3]]
   refine wo ?_
   exact w_ret (wend_ret (vres1 (rv_tmp rfl)) (by rw [sameN_f (fun e => k3 (by rw [e]))]))
  rw [show (!(n.path == m.path)) = false by simp [k3]]
  refine wo ?_
  first | refine zX (m_ldl rfl e2) ?_ | refine yX (m_ldl rfl e2) ?_
  first | (apply wm; iterate 5 exact rfl) | (apply dm; iterate 6 exact rfl) | (apply wmg; iterate 7 exact rfl) | (apply dmg; iterate 8 exact rfl)
  refine m_b2so rfl hB2.1 hB2.2
  refine wo ?_
  first | refine zX (m_ldl rfl e2') ?_ | refine yX (m_ldl rfl e2') ?_
  first | (apply wm; iterate 5 exact rfl) | (apply dm; iterate 6 exact rfl) | (apply wmg; iterate 7 exact rfl) | (apply dmg; iterate 8 exact rfl)
  refine m_b2so rfl hB2'.1 hB2'.2
  first | (apply wm; iterate 5 exact rfl) | (apply dm; iterate 6 exact rfl) | (apply wmg; iterate 7 exact rfl) | (apply dmg; iterate 8 exact rfl)
  refine m_neqs rfl rfl
  by_cases k4 : n.val = m.val
  rotate_left
  ·rw [show (!(n.val == m.val)) = true by simp [k4]]
   refine wo ?_
   exact w_ret (wend_ret (vres1 (rv_tmp rfl)) (by rw [sameN_f (fun e => k4 (by rw [e]))]))
  rw [show (!(n.val == m.val)) = false by simp [k4]]
  refine wo ?_
  first | refine zX (m_ldln (s := 33) (cs := nx) rfl e4 hnx.len) ?_ | refine yX (m_ldln (s := 33) (cs := nx) rfl e4 hnx.len) ?_
  refine wo ?_
  first | refine zX (m_ldln (s := 33) (cs := nx') rfl e4' hnx'.len) ?_ | refine yX (m_ldln (s := 33) (cs := nx') rfl e4' hnx'.len) ?_
  first | refine p_callq (vwant_n rfl) rfl rfl rfl rfl (fun hp' hs => sameref2_d hs.ok hnx hnx' (fun A c o cs h => (hP _ _ _ _ h).give0 hs) (fun A c o cs h => (hP' _ _ _ _ h).give0 hs)) ?_ | refine d_callq (vwant_n rfl) (by decide +kernel) rfl rfl rfl rfl (fun hp' hs => sameref2_d hs.ok hnx hnx' (fun A c o cs h => (hP _ _ _ _ h).give0 hs) (fun A c o cs h => (hP' _ _ _ _ h).give0 hs)) ?_ | refine d_callq0 (vwant_n rfl) (by decide +kernel) rfl rfl rfl rfl (fun hp' hs => sameref2_d hs.ok hnx hnx' (fun A c o cs h => (hP _ _ _ _ h).give0 hs) (fun A c o cs h => (hP' _ _ _ _ h).give0 hs)) ?_ | refine p_callq (vwant_g rfl rfl rfl) rfl rfl rfl rfl (fun hp' hs => sameref2_d hs.ok hnx hnx' (fun A c o cs h => (hP _ _ _ _ h).give0 hs) (fun A c o cs h => (hP' _ _ _ _ h).give0 hs)) ?_ | refine d_callq (vwant_g rfl rfl rfl) (by decide +kernel) rfl rfl rfl rfl (fun hp' hs => sameref2_d hs.ok hnx hnx' (fun A c o cs h => (hP _ _ _ _ h).give0 hs) (fun A c o cs h => (hP' _ _ _ _ h).give0 hs)) ?_ | refine d_callq0 (vwant_g rfl rfl rfl) (by decide +kernel) rfl rfl rfl rfl (fun hp' hs => sameref2_d hs.ok hnx hnx' (fun A c o cs h => (hP _ _ _ _ h).give0 hs) (fun A c o cs h => (hP' _ _ _ _ h).give0 hs)) ?_
  by_cases k5 : n.next = m.next
  rotate_left
  ·rw [sameR_f k5]
   refine wo ?_
   exact w_ret (wend_ret (vres1 (rv_tmp rfl)) (by rw [sameN_f (fun e => k5 (by rw [e]))]))
  rw [sameR_t k5]
  refine wo ?_
  exact ⟨⟨k1, k2', k3, k4, k5⟩, rfl, ⟨rfl, rfl, trivial⟩, fun hp h => h⟩
 obtain ⟨k1, k2, k3, k4, k5⟩ := hC
 refine wo ?_
 iterate 4 ((try refine w_seq ?_); refine wo ?_)
 refine w_loop (ι := Nat) (fun i => [(5, .i .i64 (i : Nat)), (3, .p (some (bb, 0))), (2, .p (some (ba, 0)))]) (fun i => [(some bb, cellsO w' 29), (some ba, cellsO w 29)]) (fun i => i ≤ 16 ∧ n.kids.take i = m.kids.take i) (fun i => 16 - i) 0 ⟨Nat.zero_le _, rfl⟩ ⟨rfl, rfl, rfl, trivial⟩ (fun hp h => h) ?_
 intro i ⟨hi, hall⟩
 refine wo ?_
 by_cases g : i < 16
 ·obtain ⟨r, x, h1, h2, h3⟩ := hkid g
  obtain ⟨r', x', h1', h2', h3'⟩ := hkid' g
  first | (apply wm; iterate 5 exact rfl) | (apply dm; iterate 6 exact rfl) | (apply wmg; iterate 7 exact rfl) | (apply dmg; iterate 8 exact rfl)
  refine mv_int (v := .b true) rfl rfl (vi_lssT (by omega))
  refine wo ?_
  first | (apply wn; iterate 5 exact rfl) | (apply dn; iterate 5 exact rfl) | (apply wg; iterate 7 exact rfl) | (apply dg; iterate 7 exact rfl)
  refine p_iaan rfl rfl g
  first | refine zX (m_ldln (s := 33) (cs := x) rfl h2 h3.len) ?_ | refine yX (m_ldln (s := 33) (cs := x) rfl h2 h3.len) ?_
  refine wo ?_
  first | (apply wn; iterate 5 exact rfl) | (apply dn; iterate 5 exact rfl) | (apply wg; iterate 7 exact rfl) | (apply dg; iterate 7 exact rfl)
  refine p_iaan rfl rfl g
  first | refine zX (m_ldln (s := 33) (cs := x') rfl h2' h3'.len) ?_ | refine yX (m_ldln (s := 33) (cs := x') rfl h2' h3'.len) ?_
  first | refine p_callq (vwant_n rfl) rfl rfl rfl rfl (fun hp' hs => sameref2_d hs.ok h3 h3' (fun A c o cs h => (hP _ _ _ _ h).give0 hs) (fun A c o cs h => (hP' _ _ _ _ h).give0 hs)) ?_ | refine d_callq (vwant_n rfl) (by decide +kernel) rfl rfl rfl rfl (fun hp' hs => sameref2_d hs.ok h3 h3' (fun A c o cs h => (hP _ _ _ _ h).give0 hs) (fun A c o cs h => (hP' _ _ _ _ h).give0 hs)) ?_ | refine d_callq0 (vwant_n rfl) (by decide +kernel) rfl rfl rfl rfl (fun hp' hs => sameref2_d hs.ok h3 h3' (fun A c o cs h => (hP _ _ _ _ h).give0 hs) (fun A c o cs h => (hP' _ _ _ _ h).give0 hs)) ?_ | refine p_callq (vwant_g rfl rfl rfl) rfl rfl rfl rfl (fun hp' hs => sameref2_d hs.ok h3 h3' (fun A c o cs h => (hP _ _ _ _ h).give0 hs) (fun A c o cs h => (hP' _ _ _ _ h).give0 hs)) ?_ | refine d_callq (vwant_g rfl rfl rfl) (by decide +kernel) rfl rfl rfl rfl (fun hp' hs => sameref2_d hs.ok h3 h3' (fun A c o cs h => (hP _ _ _ _ h).give0 hs) (fun A c o cs h => (hP' _ _ _ _ h).give0 hs)) ?_ | refine d_callq0 (vwant_g rfl rfl rfl) (by decide +kernel) rfl rfl rfl rfl (fun hp' hs => sameref2_d hs.ok h3 h3' (fun A c o cs h => (hP _ _ _ _ h).give0 hs) (fun A c o cs h => (hP' _ _ _ _ h).give0 hs)) ?_
  by_cases k6 : r = r'
  rotate_left
  ·rw [sameR_f k6]
   refine wo ?_
   exact w_ret (wend_ret (vres1 (rv_tmp rfl)) (by rw [sameN_f (fun e => by rw [e] at h1; rw [h1] at h1'; exact k6 (Option.some.inj h1'))]))
  subst k6
  rw [sameR_t rfl]
  refine wo ?_
  exact ⟨rfl, i + 1, ⟨g, take_all2 hall h1 h1'⟩, by omega, ⟨rfl, rfl, rfl, trivial⟩, fun hp h => h⟩
 ·first | (apply wm; iterate 5 exact rfl) | (apply dm; iterate 6 exact rfl) | (apply wmg; iterate 7 exact rfl) | (apply dmg; iterate 8 exact rfl)
  refine mv_int (v := .b false) rfl rfl (vi_lssF (by omega))
  refine wo ?_
  refine w_exit ?_
  obtain rfl : i = 16 := by omega
  rw [List.take_of_length_le (by omega), List.take_of_length_le (by omega)] at hall
  refine wo ?_
  refine w_ret (wend_ret (vres1 (rv_tmp rfl)) ?_)
  rw [sameN_t]
  obtain ⟨a1, a2, a3, a4, a5, a6⟩ := n
  obtain ⟨b1, b2, b3, b4, b5, b6⟩ := m
  simp only at k1 k2 k3 k4 k5 hall
  rw [k1, k2, k3, k4, k5, hall]
theorem RowU.got {e : TypeId} {xs : List UInt8} {u : V} {M : HV} (h : RowU e xs u M) (h0 : 0 < xs.length) : ∃ b op oo, u = .sl (some (b, 0)) xs.length xs.length op ∧ M = [(some b, .cells (xs.map byV) e oo false)] := by
 cases h with
 | nil => simp at h0
 | own h => exact ⟨_, _, _, rfl, rfl⟩
theorem all_map {α : Type} (l : List α) (n : Nat) (h : l.length = n) : (l.drop 0).take n = l := by rw [List.drop_zero]; exact List.take_of_length_le (Nat.le_of_eq h)
def knN : NodS := ⟨1, [1, 2, 3, 4], [120], false, zRef, List.replicate 16 zRef⟩
def knB : List UInt8 := [197, 131, 32, 18, 52, 120]
theorem kn_may : mayS ndD knN = true := by kernel_rfl
theorem kn_ok : NodOk knN := ⟨rfl, rfl, fun r hr => by rw [List.eq_of_mem_replicate hr]; rfl⟩
theorem kn_b : ndB knN = knB := by kernel_rfl
theorem kn_d : ndD knB = some knN := by rw [← kn_b]; exact (ndD_ndB kn_ok kn_may).1
set_option maxHeartbeats 8000000 in
theorem nknown_d {hp : Hp} (ho : OkH hp) : Fn kxD 10 [] hp [] fun q _ => q = .v (.b true) := by
 have hlen : ∀ (a b : V), (nodC knN a b zFC (List.replicate 16 zFC).flatten).length = 582 := fun a b => by kernel_rfl
 refine fn_of_w (T := []) ho.sv (fun _ => rfl) (fn := Try.f10) (by kernel_rfl) rfl rfl ?_
 refine wo ?_
 first | (apply p_op; exact (vwant_n rfl); iterate 4 exact rfl) | (apply d_op; exact (vwant_n rfl); exact rfl; exact noRd rfl; decide +kernel; (iterate 3 exact rfl); rotate_left) | (apply p_op; exact (vwant_g rfl rfl rfl); iterate 4 exact rfl) | (apply d_op; exact (vwant_g rfl rfl rfl); exact rfl; exact noRd rfl; decide +kernel; (iterate 3 exact rfl); rotate_left)
 refine e_bs (C := [byV 1, byV 2, byV 3, byV 4]) rfl rfl (.cons rfl rfl (.cons rfl rfl (.cons rfl rfl (.cons rfl rfl .nil)))) rfl fun b1 => ⟨_, rfl, ?_⟩
 try (case hok => first | exact rdOk_nil | exact rdOk_b (by decide +kernel) | exact rdOk_c | (repeat (first | exact rdOk_e | refine rdOk_d (by decide +kernel) ?_ | refine rdOk_n ?_)))
 first | (apply p_op; exact (vwant_n rfl); iterate 4 exact rfl) | (apply d_op; exact (vwant_n rfl); exact rfl; exact noRd rfl; decide +kernel; (iterate 3 exact rfl); rotate_left) | (apply p_op; exact (vwant_g rfl rfl rfl); iterate 4 exact rfl) | (apply d_op; exact (vwant_g rfl rfl rfl); exact rfl; exact noRd rfl; decide +kernel; (iterate 3 exact rfl); rotate_left)
 refine e_bs (C := [byV 120]) rfl rfl (.cons rfl rfl .nil) rfl fun b2 => ⟨_, rfl, ?_⟩
 try (case hok => first | exact rdOk_nil | exact rdOk_b (by decide +kernel) | exact rdOk_c | (repeat (first | exact rdOk_e | refine rdOk_d (by decide +kernel) ?_ | refine rdOk_n ?_)))
 first | (apply p_op; exact (vwant_n rfl); iterate 4 exact rfl) | (apply d_op; exact (vwant_n rfl); exact rfl; exact noRd rfl; decide +kernel; (iterate 3 exact rfl); rotate_left) | (apply p_op; exact (vwant_g rfl rfl rfl); iterate 4 exact rfl) | (apply d_op; exact (vwant_g rfl rfl rfl); exact rfl; exact noRd rfl; decide +kernel; (iterate 3 exact rfl); rotate_left)
 refine e_share rfl ⟨_, rfl, ?_⟩
 try (case hok => first | exact rdOk_nil | exact rdOk_b (by decide +kernel) | exact rdOk_c | (repeat (first | exact rdOk_e | refine rdOk_d (by decide +kernel) ?_ | refine rdOk_n ?_)))
 first | (apply wn; iterate 5 exact rfl) | (apply dn; iterate 5 exact rfl) | (apply wg; iterate 7 exact rfl) | (apply dg; iterate 7 exact rfl)
 refine p_buildS (C := nodC knN (.sl (some (b1, 0)) 4 4 false) (.sl (some (b2, 0)) 1 1 false) zFC (List.replicate 16 zFC).flatten) (.cons rfl rfl rfl rfl (Nat.le_of_ble_eq_true rfl) (.cons rfl rfl rfl rfl (Nat.le_of_ble_eq_true rfl) (.cons rfl rfl rfl rfl (Nat.le_of_ble_eq_true rfl) .nil))) (by kernel_rfl)
 first | (apply p_op; exact (vwant_n rfl); iterate 4 exact rfl) | (apply d_op; exact (vwant_n rfl); exact rfl; exact noRd rfl; decide +kernel; (iterate 3 exact rfl); rotate_left) | (apply p_op; exact (vwant_g rfl rfl rfl); iterate 4 exact rfl) | (apply d_op; exact (vwant_g rfl rfl rfl); exact rfl; exact noRd rfl; decide +kernel; (iterate 3 exact rfl); rotate_left)
 refine e_alloc (zc := zNC) (by kernel_rfl) fun b3 => ⟨_, rfl, ?_⟩
 try (case hok => first | exact rdOk_nil | exact rdOk_b (by decide +kernel) | exact rdOk_c | (repeat (first | exact rdOk_e | refine rdOk_d (by decide +kernel) ?_ | refine rdOk_n ?_)))
 first | (apply p_do; exact (vwant_n rfl); exact rfl; exact rfl) | (apply d_do; exact (vwant_n rfl); exact rfl; exact noRd rfl; decide +kernel; exact rfl; rotate_left) | (apply p_do; exact (vwant_g rfl rfl rfl); exact rfl; exact rfl) | (apply d_do; exact (vwant_g rfl rfl rfl); exact rfl; exact noRd rfl; decide +kernel; exact rfl; rotate_left)
 refine e_stn (C' := nodC knN (.sl (some (b1, 0)) 4 4 false) (.sl (some (b2, 0)) 1 1 false) zFC (List.replicate 16 zFC).flatten) rfl rfl (List.cons_ne_nil _ _) (hlen _ _) (Nat.le_of_eq zNC_len.symm) (overV_all ((hlen _ _).trans zNC_len.symm)) ⟨_, rfl, ?_⟩
 try (case hok => first | exact rdOk_nil | exact rdOk_b (by decide +kernel) | exact rdOk_c | (repeat (first | exact rdOk_e | refine rdOk_d (by decide +kernel) ?_ | refine rdOk_n ?_)))
 refine wo ?_
 first | refine zX (m_ldln (s := 581) (cs := nodC knN (.sl (some (b1, 0)) 4 4 false) (.sl (some (b2, 0)) 1 1 false) zFC (List.replicate 16 zFC).flatten) rfl (all_take _ (hlen _ _)) (hlen _ _)) ?_ | refine yX (m_ldln (s := 581) (cs := nodC knN (.sl (some (b1, 0)) 4 4 false) (.sl (some (b2, 0)) 1 1 false) zFC (List.replicate 16 zFC).flatten) rfl (all_take _ (hlen _ _)) (hlen _ _)) ?_
 have hN : ∀ {hp' : Hp} {L : HV}, SV ⟨hp, []⟩ hp' L → (∀ p ∈ [(some b2, VO.cells [byV 120] 5 none true), (some b1, VO.cells [byV 1, byV 2, byV 3, byV 4] 5 none false)], p ∈ L) → NodP (rbP ⟨hp', []⟩) knN (nodC knN (.sl (some (b1, 0)) 4 4 false) (.sl (some (b2, 0)) 1 1 false) zFC (List.replicate 16 zFC).flatten) := fun {hp' L} hs hx => by
  have h1 : Sn L (some (b1, 0)) (knN.path.map byV) := Sn.own (C := [byV 1, byV 2, byV 3, byV 4]) (T := 5) (oo := none) (mk := false) (hx _ (by simp)) rfl
  have h2 : Sn L (some (b2, 0)) (knN.val.map byV) := Sn.own (C := [byV 120]) (T := 5) (oo := none) (mk := true) (hx _ (by simp)) rfl
  exact ⟨rfl, some (b1, 0), 4, false, some (b2, 0), 1, false, zFC, List.replicate 16 zFC, rfl, h1 _ _ [] _ hs (fun p hp => hp), Nat.le_refl _, h2 _ _ [] _ hs (fun p hp => hp), Nat.le_refl _, zFC_p _ RB.nil, refsP_rep RB.nil 16⟩
 first | (apply p_callY []; exact (vwant_n rfl); iterate 4 exact rfl) | (apply d_callY []; exact (vwant_n rfl); decide +kernel; (iterate 4 exact rfl)) | (apply p_callY []; exact (vwant_g rfl rfl rfl); iterate 4 exact rfl) | (apply d_callY []; exact (vwant_g rfl rfl rfl); decide +kernel; (iterate 4 exact rfl))
 try (case hok => first | exact rdOk_nil | exact rdOk_b (by decide +kernel) | exact rdOk_c)
 case hC => exact (fun hp' hs ht => nencode_ok kn_may hs.ok (hN hs (by simp [cellsO])))
 rintro u N1 ⟨w1, rfl, hw1⟩
 rw [kn_b] at hw1
 obtain ⟨b9, o9, oo9, rfl, rfl⟩ := hw1.got (by decide)
 rw [List.singleton_append]
 refine wo ?_
 first | (apply p_op; exact (vwant_n rfl); iterate 4 exact rfl) | (apply d_op; exact (vwant_n rfl); exact rfl; exact noRd rfl; decide +kernel; (iterate 3 exact rfl); rotate_left) | (apply p_op; exact (vwant_g rfl rfl rfl); iterate 4 exact rfl) | (apply d_op; exact (vwant_g rfl rfl rfl); exact rfl; exact noRd rfl; decide +kernel; (iterate 3 exact rfl); rotate_left)
 refine e_bs (C := knB.map byV) rfl rfl (.cons rfl rfl (.cons rfl rfl (.cons rfl rfl (.cons rfl rfl (.cons rfl rfl (.cons rfl rfl .nil)))))) rfl fun b6 => ⟨_, rfl, ?_⟩
 try (case hok => first | exact rdOk_nil | exact rdOk_b (by decide +kernel) | exact rdOk_c | (repeat (first | exact rdOk_e | refine rdOk_d (by decide +kernel) ?_ | refine rdOk_n ?_)))
 first | (apply p_callY []; exact (vwant_n rfl); iterate 4 exact rfl) | (apply d_callY []; exact (vwant_n rfl); decide +kernel; (iterate 4 exact rfl)) | (apply p_callY []; exact (vwant_g rfl rfl rfl); iterate 4 exact rfl) | (apply d_callY []; exact (vwant_g rfl rfl rfl); decide +kernel; (iterate 4 exact rfl))
 try (case hok => first | exact rdOk_nil | exact rdOk_b (by decide +kernel) | exact rdOk_c)
 case hC => exact (fun hp' hs ht => ndecode_ok (b := knB) kn_d hs.ok (rb_own0 hs (i := 0) rfl rfl) (Nat.le_refl _))
 rintro u N2 ⟨w2, rfl, hw2⟩
 have hwl := hw2.len
 refine wo ?_
 first | (apply p_op; exact (vwant_n rfl); iterate 4 exact rfl) | (apply d_op; exact (vwant_n rfl); exact rfl; exact noRd rfl; decide +kernel; (iterate 3 exact rfl); rotate_left) | (apply p_op; exact (vwant_g rfl rfl rfl); iterate 4 exact rfl) | (apply d_op; exact (vwant_g rfl rfl rfl); exact rfl; exact noRd rfl; decide +kernel; (iterate 3 exact rfl); rotate_left)
 refine e_alloc (zc := zNC) (by kernel_rfl) fun b4 => ⟨_, rfl, ?_⟩
 try (case hok => first | exact rdOk_nil | exact rdOk_b (by decide +kernel) | exact rdOk_c | (repeat (first | exact rdOk_e | refine rdOk_d (by decide +kernel) ?_ | refine rdOk_n ?_)))
 first | (apply p_do; exact (vwant_n rfl); exact rfl; exact rfl) | (apply d_do; exact (vwant_n rfl); exact rfl; exact noRd rfl; decide +kernel; exact rfl; rotate_left) | (apply p_do; exact (vwant_g rfl rfl rfl); exact rfl; exact rfl) | (apply d_do; exact (vwant_g rfl rfl rfl); exact rfl; exact noRd rfl; decide +kernel; exact rfl; rotate_left)
 refine e_stn (C' := w2) rfl rfl (ne_of_len hwl (by decide)) hwl (Nat.le_of_eq zNC_len.symm) (overV_all (hwl.trans zNC_len.symm)) ⟨_, rfl, ?_⟩
 try (case hok => first | exact rdOk_nil | exact rdOk_b (by decide +kernel) | exact rdOk_c | (repeat (first | exact rdOk_e | refine rdOk_d (by decide +kernel) ?_ | refine rdOk_n ?_)))
 refine wo ?_
 first | refine p_callq (vwant_n rfl) rfl rfl rfl rfl (fun hp' hs => num_d hs.ok) ?_ | refine d_callq (vwant_n rfl) (by decide +kernel) rfl rfl rfl rfl (fun hp' hs => num_d hs.ok) ?_ | refine d_callq0 (vwant_n rfl) (by decide +kernel) rfl rfl rfl rfl (fun hp' hs => num_d hs.ok) ?_ | refine p_callq (vwant_g rfl rfl rfl) rfl rfl rfl rfl (fun hp' hs => num_d hs.ok) ?_ | refine d_callq (vwant_g rfl rfl rfl) (by decide +kernel) rfl rfl rfl rfl (fun hp' hs => num_d hs.ok) ?_ | refine d_callq0 (vwant_g rfl rfl rfl) (by decide +kernel) rfl rfl rfl rfl (fun hp' hs => num_d hs.ok) ?_
 first | (apply wm; iterate 5 exact rfl) | (apply dm; iterate 6 exact rfl) | (apply wmg; iterate 7 exact rfl) | (apply dmg; iterate 8 exact rfl)
 refine mv_int (v := .b true) rfl rfl (vi_eqlT (rfl))
 refine wo ?_
 first | refine p_callq (vwant_n rfl) rfl rfl rfl rfl (fun hp' hs => num_d hs.ok) ?_ | refine d_callq (vwant_n rfl) (by decide +kernel) rfl rfl rfl rfl (fun hp' hs => num_d hs.ok) ?_ | refine d_callq0 (vwant_n rfl) (by decide +kernel) rfl rfl rfl rfl (fun hp' hs => num_d hs.ok) ?_ | refine p_callq (vwant_g rfl rfl rfl) rfl rfl rfl rfl (fun hp' hs => num_d hs.ok) ?_ | refine d_callq (vwant_g rfl rfl rfl) (by decide +kernel) rfl rfl rfl rfl (fun hp' hs => num_d hs.ok) ?_ | refine d_callq0 (vwant_g rfl rfl rfl) (by decide +kernel) rfl rfl rfl rfl (fun hp' hs => num_d hs.ok) ?_
 first | (apply wm; iterate 5 exact rfl) | (apply dm; iterate 6 exact rfl) | (apply wmg; iterate 7 exact rfl) | (apply dmg; iterate 8 exact rfl)
 refine mv_int (v := .b true) rfl rfl (vi_eqlT (rfl))
 refine wo ?_
 first | refine zX (m_b2s (op' := false) (xs := knB) rfl (all_map _ _ rfl)) ?_ | refine yX (m_b2s (op' := false) (xs := knB) rfl (all_map _ _ rfl)) ?_
 first | (apply wm; iterate 5 exact rfl) | (apply dm; iterate 6 exact rfl) | (apply wmg; iterate 7 exact rfl) | (apply dmg; iterate 8 exact rfl)
 refine m_eqs rfl rfl
 rw [show (knB == [197, 131, 32, 18, 52, 120]) = true from rfl]
 refine wo ?_
 first | refine zX (m_ldln (s := 581) (cs := w2) rfl (all_take _ hwl) hwl) ?_ | refine yX (m_ldln (s := 581) (cs := w2) rfl (all_take _ hwl) hwl) ?_
 first | refine zX (m_ldln (s := 581) (cs := nodC knN (.sl (some (b1, 0)) 4 4 false) (.sl (some (b2, 0)) 1 1 false) zFC (List.replicate 16 zFC).flatten) rfl (all_take _ (hlen _ _)) (hlen _ _)) ?_ | refine yX (m_ldln (s := 581) (cs := nodC knN (.sl (some (b1, 0)) 4 4 false) (.sl (some (b2, 0)) 1 1 false) zFC (List.replicate 16 zFC).flatten) rfl (all_take _ (hlen _ _)) (hlen _ _)) ?_
 first | refine p_callq (vwant_n rfl) rfl rfl rfl rfl (fun hp' hs => nsame_d hs.ok hw2 (hN hs (by simp [cellsO])) (fun A c o cs h => h _ _ [] _ hs fun p hp => List.mem_cons_of_mem _ (List.mem_append_left _ hp)) (fun A c o cs h => h)) ?_ | refine d_callq (vwant_n rfl) (by decide +kernel) rfl rfl rfl rfl (fun hp' hs => nsame_d hs.ok hw2 (hN hs (by simp [cellsO])) (fun A c o cs h => h _ _ [] _ hs fun p hp => List.mem_cons_of_mem _ (List.mem_append_left _ hp)) (fun A c o cs h => h)) ?_ | refine d_callq0 (vwant_n rfl) (by decide +kernel) rfl rfl rfl rfl (fun hp' hs => nsame_d hs.ok hw2 (hN hs (by simp [cellsO])) (fun A c o cs h => h _ _ [] _ hs fun p hp => List.mem_cons_of_mem _ (List.mem_append_left _ hp)) (fun A c o cs h => h)) ?_ | refine p_callq (vwant_g rfl rfl rfl) rfl rfl rfl rfl (fun hp' hs => nsame_d hs.ok hw2 (hN hs (by simp [cellsO])) (fun A c o cs h => h _ _ [] _ hs fun p hp => List.mem_cons_of_mem _ (List.mem_append_left _ hp)) (fun A c o cs h => h)) ?_ | refine d_callq (vwant_g rfl rfl rfl) (by decide +kernel) rfl rfl rfl rfl (fun hp' hs => nsame_d hs.ok hw2 (hN hs (by simp [cellsO])) (fun A c o cs h => h _ _ [] _ hs fun p hp => List.mem_cons_of_mem _ (List.mem_append_left _ hp)) (fun A c o cs h => h)) ?_ | refine d_callq0 (vwant_g rfl rfl rfl) (by decide +kernel) rfl rfl rfl rfl (fun hp' hs => nsame_d hs.ok hw2 (hN hs (by simp [cellsO])) (fun A c o cs h => h _ _ [] _ hs fun p hp => List.mem_cons_of_mem _ (List.mem_append_left _ hp)) (fun A c o cs h => h)) ?_
 rw [sameN_t rfl]
 refine wo ?_
 exact w_ret (wend_ret (vres1 (rv_tmp rfl)) rfl)
/- Nm3: NodeRound on the machine. By this project. -/
theorem zN_p {P : PP} (h : P none 0 false []) : NodP P zNod zNC := ⟨rfl, none, 0, false, none, 0, false, zFC, List.replicate 16 zFC, rfl, h, Nat.le_refl _, h, Nat.le_refl _, zFC_p _ h, refsP_rep h 16⟩
theorem same_bytes {n m : NodS} (hn : NodOk n) (hm : NodOk m) (h1 : mayS ndD n = true) (h2 : mayS ndD m = true) : (ndB n == ndB m) = sameN n m := by
 by_cases g : n = m
 ·rw [sameN_t g, g, beq_self_eq_true]
 ·rw [sameN_f g, beq_eq_false_iff_ne]
  intro e
  have a := (ndD_ndB hn h1).1
  rw [e, (ndD_ndB hm h2).1] at a
  exact g (Option.some.inj a).symm
set_option maxHeartbeats 64000000 in
theorem roundlaw_d {n m : NodS} {w v : List V} {raw : List UInt8} {A : Option (Nat × Nat)} {c : Nat} {o : Bool} {hp : Hp} (ho : OkH hp) (hn : NodP (rbP ⟨hp, []⟩) n w) (hm : NodP (rbP ⟨hp, []⟩) m v) (hA : RB ⟨hp, []⟩ A (raw.map byV)) (hc : raw.length ≤ c) :
  Fn kxD 5 [.agg w, .agg v, .sl A raw.length c o] hp [] fun r _ => r = .v (.b true) := by
 have hwl := hn.len
 have hvl := hm.len
 have hok := hn.ok
 have hok' := hm.ok
 refine fn_of_w (T := []) ho.sv (fun _ => rfl) (fn := Try.f5) (by kernel_rfl) rfl rfl ?_
 refine wo ?_
 first | (apply p_op; exact (vwant_n rfl); iterate 4 exact rfl) | (apply d_op; exact (vwant_n rfl); exact rfl; exact noRd rfl; decide +kernel; (iterate 3 exact rfl); rotate_left) | (apply p_op; exact (vwant_g rfl rfl rfl); iterate 4 exact rfl) | (apply d_op; exact (vwant_g rfl rfl rfl); exact rfl; exact noRd rfl; decide +kernel; (iterate 3 exact rfl); rotate_left)
 refine ev_box rfl rfl fun b3 => ⟨_, rfl, ?_⟩
 try (case hok => first | exact rdOk_nil | exact rdOk_b (by decide +kernel) | exact rdOk_c | (repeat (first | exact rdOk_e | refine rdOk_d (by decide +kernel) ?_ | refine rdOk_n ?_)))
 first | (apply p_op; exact (vwant_n rfl); iterate 4 exact rfl) | (apply d_op; exact (vwant_n rfl); exact rfl; exact noRd rfl; decide +kernel; (iterate 3 exact rfl); rotate_left) | (apply p_op; exact (vwant_g rfl rfl rfl); iterate 4 exact rfl) | (apply d_op; exact (vwant_g rfl rfl rfl); exact rfl; exact noRd rfl; decide +kernel; (iterate 3 exact rfl); rotate_left)
 refine ev_box rfl rfl fun b4 => ⟨_, rfl, ?_⟩
 try (case hok => first | exact rdOk_nil | exact rdOk_b (by decide +kernel) | exact rdOk_c | (repeat (first | exact rdOk_e | refine rdOk_d (by decide +kernel) ?_ | refine rdOk_n ?_)))
 refine wo ?_
 first | refine p_callq (vwant_n rfl) rfl rfl rfl rfl (fun hp' hs => nknown_d hs.ok) ?_ | refine d_callq (vwant_n rfl) (by decide +kernel) rfl rfl rfl rfl (fun hp' hs => nknown_d hs.ok) ?_ | refine d_callq0 (vwant_n rfl) (by decide +kernel) rfl rfl rfl rfl (fun hp' hs => nknown_d hs.ok) ?_ | refine p_callq (vwant_g rfl rfl rfl) rfl rfl rfl rfl (fun hp' hs => nknown_d hs.ok) ?_ | refine d_callq (vwant_g rfl rfl rfl) (by decide +kernel) rfl rfl rfl rfl (fun hp' hs => nknown_d hs.ok) ?_ | refine d_callq0 (vwant_g rfl rfl rfl) (by decide +kernel) rfl rfl rfl rfl (fun hp' hs => nknown_d hs.ok) ?_
 refine wOS0 ?_
 refine w_cutE (ι := V × Int × HV) (fun s => [(8, .i .i64 s.2.1), (7, s.1), (4, .p (some (b4, 0))), (3, .p (some (b3, 0))), (2, .sl A raw.length c o)]) (fun s => s.2.2 ++ [(some b4, cellsO v 29), (some b3, cellsO w 29)]) (fun s => (mayS ndD n = true ∧ RowK (ndB n) s.1 s.2.2 ∧ s.2.1 = 0) ∨ (mayS ndD n = false ∧ s = (.sl none 0 0 false, 70, []))) ?_ ?_
 ·refine wo ?_
  first | refine zX (m_ldln (s := 581) (cs := w) rfl (all_take _ hwl) hwl) ?_ | refine yX (m_ldln (s := 581) (cs := w) rfl (all_take _ hwl) hwl) ?_
  cases hm0 : mayS ndD n with
  | false =>
   first | (apply p_callY []; exact (vwant_n rfl); iterate 4 exact rfl) | (apply d_callY []; exact (vwant_n rfl); decide +kernel; (iterate 4 exact rfl)) | (apply p_callY []; exact (vwant_g rfl rfl rfl); iterate 4 exact rfl) | (apply d_callY []; exact (vwant_g rfl rfl rfl); decide +kernel; (iterate 4 exact rfl))
   try (case hok => first | exact rdOk_nil | exact rdOk_b (by decide +kernel) | exact rdOk_c)
   case hC => exact (fun hp' hs ht => nencode_no hm0 hs.ok (hn.mono fun A c o cs h => h.give0 hs))
   rintro u N rfl
   refine wo ?_
   exact ⟨(.sl none 0 0 false, 70, []), .inr ⟨rfl, rfl⟩, rfl, ⟨rfl, rfl, rfl, rfl, rfl, trivial⟩, fun hp h => h.le⟩
  | true =>
   first | (apply p_callY []; exact (vwant_n rfl); iterate 4 exact rfl) | (apply d_callY []; exact (vwant_n rfl); decide +kernel; (iterate 4 exact rfl)) | (apply p_callY []; exact (vwant_g rfl rfl rfl); iterate 4 exact rfl) | (apply d_callY []; exact (vwant_g rfl rfl rfl); decide +kernel; (iterate 4 exact rfl))
   try (case hok => first | exact rdOk_nil | exact rdOk_b (by decide +kernel) | exact rdOk_c)
   case hC => exact (fun hp' hs ht => nencode_ok hm0 hs.ok (hn.mono fun A c o cs h => h.give0 hs))
   rintro u N ⟨w1, rfl, hw1⟩
   refine wo ?_
   exact ⟨(w1, 0, N), .inl ⟨rfl, hw1, rfl⟩, rfl, ⟨rfl, rfl, rfl, rfl, rfl, trivial⟩, fun hp h => h.le⟩
 rintro ⟨u1, e1, N1⟩ hcase
 dsimp only at hcase ⊢
 refine w_cutS [(2, .sl A raw.length c o)] [] True ?_ fun _ => ?_
 ·rcases hcase with ⟨hm0, hw1, rfl⟩ | ⟨hm0, heq⟩
  ·have hd := (ndD_ndB hok hm0).1
   have h24 := (ndD_ndB hok hm0).2
   have h3 := ndB_len n hm0
   obtain ⟨b, ob, oo, rfl, rfl⟩ := hw1.got (by omega)
   rw [List.singleton_append]
   refine wo ?_
   first | refine zX (m_ldln (s := 581) (cs := w) rfl (all_take _ hwl) hwl) ?_ | refine yX (m_ldln (s := 581) (cs := w) rfl (all_take _ hwl) hwl) ?_
   first | refine p_callq (vwant_n rfl) rfl rfl rfl rfl (fun hp' hs => ncheck_d hs.ok (hn.mono fun A c o cs h => h.give0 hs)) ?_ | refine d_callq (vwant_n rfl) (by decide +kernel) rfl rfl rfl rfl (fun hp' hs => ncheck_d hs.ok (hn.mono fun A c o cs h => h.give0 hs)) ?_ | refine d_callq0 (vwant_n rfl) (by decide +kernel) rfl rfl rfl rfl (fun hp' hs => ncheck_d hs.ok (hn.mono fun A c o cs h => h.give0 hs)) ?_ | refine p_callq (vwant_g rfl rfl rfl) rfl rfl rfl rfl (fun hp' hs => ncheck_d hs.ok (hn.mono fun A c o cs h => h.give0 hs)) ?_ | refine d_callq (vwant_g rfl rfl rfl) (by decide +kernel) rfl rfl rfl rfl (fun hp' hs => ncheck_d hs.ok (hn.mono fun A c o cs h => h.give0 hs)) ?_ | refine d_callq0 (vwant_g rfl rfl rfl) (by decide +kernel) rfl rfl rfl rfl (fun hp' hs => ncheck_d hs.ok (hn.mono fun A c o cs h => h.give0 hs)) ?_
   rw [if_pos hm0]
   first | (apply wm; iterate 5 exact rfl) | (apply dm; iterate 6 exact rfl) | (apply wmg; iterate 7 exact rfl) | (apply dmg; iterate 8 exact rfl)
   refine mv_int (v := .b true) rfl rfl (vi_eqlT (rfl))
   refine wo ?_
   first | (apply p_op; exact (vwant_n rfl); iterate 4 exact rfl) | (apply d_op; exact (vwant_n rfl); exact rfl; exact noRd rfl; decide +kernel; (iterate 3 exact rfl); rotate_left) | (apply p_op; exact (vwant_g rfl rfl rfl); iterate 4 exact rfl) | (apply d_op; exact (vwant_g rfl rfl rfl); exact rfl; exact noRd rfl; decide +kernel; (iterate 3 exact rfl); rotate_left)
   refine e_bs (C := []) rfl rfl .nil rfl fun bn => ⟨_, rfl, ?_⟩
   try (case hok => first | exact rdOk_nil | exact rdOk_b (by decide +kernel) | exact rdOk_c | (repeat (first | exact rdOk_e | refine rdOk_d (by decide +kernel) ?_ | refine rdOk_n ?_)))
   refine wo ?_
   first | (apply p_op; exact (vwant_n rfl); iterate 4 exact rfl) | (apply d_op; exact (vwant_n rfl); exact rfl; exact noRd rfl; decide +kernel; (iterate 3 exact rfl); rotate_left) | (apply p_op; exact (vwant_g rfl rfl rfl); iterate 4 exact rfl) | (apply d_op; exact (vwant_g rfl rfl rfl); exact rfl; exact noRd rfl; decide +kernel; (iterate 3 exact rfl); rotate_left)
   refine e_lit (new := (ndB n).map byV) rfl rfl (rz_loc (b := b) (k := (ndB n).length) (all_take _ (by simp))) (by simp) u8_one (by omega) fun b1 o1 oo1 h1 => ⟨_, rfl, ?_⟩
   try (case hok => first | exact rdOk_nil | exact rdOk_b (by decide +kernel) | exact rdOk_c | (repeat (first | exact rdOk_e | refine rdOk_d (by decide +kernel) ?_ | refine rdOk_n ?_)))
   first | (apply p_callY []; exact (vwant_n rfl); iterate 4 exact rfl) | (apply d_callY []; exact (vwant_n rfl); decide +kernel; (iterate 4 exact rfl)) | (apply p_callY []; exact (vwant_g rfl rfl rfl); iterate 4 exact rfl) | (apply d_callY []; exact (vwant_g rfl rfl rfl); decide +kernel; (iterate 4 exact rfl))
   try (case hok => first | exact rdOk_nil | exact rdOk_b (by decide +kernel) | exact rdOk_c)
   case hC => exact (fun hp' hs ht => ndecode_ok hd hs.ok (rb_own0 hs (i := 0) rfl (all_take _ (by simp))) (Nat.le_refl _))
   rintro u N2 ⟨w2, rfl, hw2⟩
   have hw2l := hw2.len
   refine wo ?_
   first | (apply p_op; exact (vwant_n rfl); iterate 4 exact rfl) | (apply d_op; exact (vwant_n rfl); exact rfl; exact noRd rfl; decide +kernel; (iterate 3 exact rfl); rotate_left) | (apply p_op; exact (vwant_g rfl rfl rfl); iterate 4 exact rfl) | (apply d_op; exact (vwant_g rfl rfl rfl); exact rfl; exact noRd rfl; decide +kernel; (iterate 3 exact rfl); rotate_left)
   refine e_alloc (zc := zNC) (by kernel_rfl) fun b9 => ⟨_, rfl, ?_⟩
   try (case hok => first | exact rdOk_nil | exact rdOk_b (by decide +kernel) | exact rdOk_c | (repeat (first | exact rdOk_e | refine rdOk_d (by decide +kernel) ?_ | refine rdOk_n ?_)))
   first | (apply p_do; exact (vwant_n rfl); exact rfl; exact rfl) | (apply d_do; exact (vwant_n rfl); exact rfl; exact noRd rfl; decide +kernel; exact rfl; rotate_left) | (apply p_do; exact (vwant_g rfl rfl rfl); exact rfl; exact rfl) | (apply d_do; exact (vwant_g rfl rfl rfl); exact rfl; exact noRd rfl; decide +kernel; exact rfl; rotate_left)
   refine e_stn (C' := w2) rfl rfl (ne_of_len hw2l (by decide)) hw2l (Nat.le_of_eq zNC_len.symm) (overV_all (hw2l.trans zNC_len.symm)) ⟨_, rfl, ?_⟩
   try (case hok => first | exact rdOk_nil | exact rdOk_b (by decide +kernel) | exact rdOk_c | (repeat (first | exact rdOk_e | refine rdOk_d (by decide +kernel) ?_ | refine rdOk_n ?_)))
   refine wo ?_
   first | refine p_callq (vwant_n rfl) rfl rfl rfl rfl (fun hp' hs => num_d hs.ok) ?_ | refine d_callq (vwant_n rfl) (by decide +kernel) rfl rfl rfl rfl (fun hp' hs => num_d hs.ok) ?_ | refine d_callq0 (vwant_n rfl) (by decide +kernel) rfl rfl rfl rfl (fun hp' hs => num_d hs.ok) ?_ | refine p_callq (vwant_g rfl rfl rfl) rfl rfl rfl rfl (fun hp' hs => num_d hs.ok) ?_ | refine d_callq (vwant_g rfl rfl rfl) (by decide +kernel) rfl rfl rfl rfl (fun hp' hs => num_d hs.ok) ?_ | refine d_callq0 (vwant_g rfl rfl rfl) (by decide +kernel) rfl rfl rfl rfl (fun hp' hs => num_d hs.ok) ?_
   first | (apply wm; iterate 5 exact rfl) | (apply dm; iterate 6 exact rfl) | (apply wmg; iterate 7 exact rfl) | (apply dmg; iterate 8 exact rfl)
   refine mv_int (v := .b false) rfl rfl (vi_neqF ((by simp)))
   refine wo ?_
   first | refine p_callq (vwant_n rfl) rfl rfl rfl rfl (fun hp' hs => num_d hs.ok) ?_ | refine d_callq (vwant_n rfl) (by decide +kernel) rfl rfl rfl rfl (fun hp' hs => num_d hs.ok) ?_ | refine d_callq0 (vwant_n rfl) (by decide +kernel) rfl rfl rfl rfl (fun hp' hs => num_d hs.ok) ?_ | refine p_callq (vwant_g rfl rfl rfl) rfl rfl rfl rfl (fun hp' hs => num_d hs.ok) ?_ | refine d_callq (vwant_g rfl rfl rfl) (by decide +kernel) rfl rfl rfl rfl (fun hp' hs => num_d hs.ok) ?_ | refine d_callq0 (vwant_g rfl rfl rfl) (by decide +kernel) rfl rfl rfl rfl (fun hp' hs => num_d hs.ok) ?_
   first | (apply wm; iterate 5 exact rfl) | (apply dm; iterate 6 exact rfl) | (apply wmg; iterate 7 exact rfl) | (apply dmg; iterate 8 exact rfl)
   refine mv_int (v := .b false) rfl rfl (vi_neqF ((by simp)))
   refine wo ?_
   first | refine zX (m_ldln (s := 581) (cs := w2) rfl (all_take _ hw2l) hw2l) ?_ | refine yX (m_ldln (s := 581) (cs := w2) rfl (all_take _ hw2l) hw2l) ?_
   first | refine zX (m_ldln (s := 581) (cs := w) rfl (all_take _ hwl) hwl) ?_ | refine yX (m_ldln (s := 581) (cs := w) rfl (all_take _ hwl) hwl) ?_
   first | refine p_callq (vwant_n rfl) rfl rfl rfl rfl (fun hp' hs => nsame_d hs.ok hw2 hn (fun A c o cs h => h _ _ [] _ hs fun p hp => List.mem_cons_of_mem _ (List.mem_append_left _ hp)) (fun A c o cs h => h.give0 hs)) ?_ | refine d_callq (vwant_n rfl) (by decide +kernel) rfl rfl rfl rfl (fun hp' hs => nsame_d hs.ok hw2 hn (fun A c o cs h => h _ _ [] _ hs fun p hp => List.mem_cons_of_mem _ (List.mem_append_left _ hp)) (fun A c o cs h => h.give0 hs)) ?_ | refine d_callq0 (vwant_n rfl) (by decide +kernel) rfl rfl rfl rfl (fun hp' hs => nsame_d hs.ok hw2 hn (fun A c o cs h => h _ _ [] _ hs fun p hp => List.mem_cons_of_mem _ (List.mem_append_left _ hp)) (fun A c o cs h => h.give0 hs)) ?_ | refine p_callq (vwant_g rfl rfl rfl) rfl rfl rfl rfl (fun hp' hs => nsame_d hs.ok hw2 hn (fun A c o cs h => h _ _ [] _ hs fun p hp => List.mem_cons_of_mem _ (List.mem_append_left _ hp)) (fun A c o cs h => h.give0 hs)) ?_ | refine d_callq (vwant_g rfl rfl rfl) (by decide +kernel) rfl rfl rfl rfl (fun hp' hs => nsame_d hs.ok hw2 hn (fun A c o cs h => h _ _ [] _ hs fun p hp => List.mem_cons_of_mem _ (List.mem_append_left _ hp)) (fun A c o cs h => h.give0 hs)) ?_ | refine d_callq0 (vwant_g rfl rfl rfl) (by decide +kernel) rfl rfl rfl rfl (fun hp' hs => nsame_d hs.ok hw2 hn (fun A c o cs h => h _ _ [] _ hs fun p hp => List.mem_cons_of_mem _ (List.mem_append_left _ hp)) (fun A c o cs h => h.give0 hs)) ?_
   rw [sameN_t rfl]
   refine wo ?_
   first | (apply wm; iterate 5 exact rfl) | (apply dm; iterate 6 exact rfl) | (apply wmg; iterate 7 exact rfl) | (apply dmg; iterate 8 exact rfl)
   refine mv_int (v := .b false) rfl rfl (vi_lssF (by omega))
   refine wo ?_
   first | (apply wm; iterate 5 exact rfl) | (apply dm; iterate 6 exact rfl) | (apply wmg; iterate 7 exact rfl) | (apply dmg; iterate 8 exact rfl)
   refine mv_int (v := .b false) rfl rfl (vi_gtrF (by omega))
   refine wo ?_
   first | refine zX (m_ldln (s := 581) (cs := v) rfl (all_take _ hvl) hvl) ?_ | refine yX (m_ldln (s := 581) (cs := v) rfl (all_take _ hvl) hvl) ?_
   cases hm1 : mayS ndD m with
   | false =>
    first | (apply p_callY []; exact (vwant_n rfl); iterate 4 exact rfl) | (apply d_callY []; exact (vwant_n rfl); decide +kernel; (iterate 4 exact rfl)) | (apply p_callY []; exact (vwant_g rfl rfl rfl); iterate 4 exact rfl) | (apply d_callY []; exact (vwant_g rfl rfl rfl); decide +kernel; (iterate 4 exact rfl))
    try (case hok => first | exact rdOk_nil | exact rdOk_b (by decide +kernel) | exact rdOk_c)
    case hC => exact (fun hp' hs ht => nencode_no hm1 hs.ok (hm.mono fun A c o cs h => h.give0 hs))
    rintro u N3 rfl
    refine wo ?_
    first | refine p_callq (vwant_n rfl) rfl rfl rfl rfl (fun hp' hs => num_d hs.ok) ?_ | refine d_callq (vwant_n rfl) (by decide +kernel) rfl rfl rfl rfl (fun hp' hs => num_d hs.ok) ?_ | refine d_callq0 (vwant_n rfl) (by decide +kernel) rfl rfl rfl rfl (fun hp' hs => num_d hs.ok) ?_ | refine p_callq (vwant_g rfl rfl rfl) rfl rfl rfl rfl (fun hp' hs => num_d hs.ok) ?_ | refine d_callq (vwant_g rfl rfl rfl) (by decide +kernel) rfl rfl rfl rfl (fun hp' hs => num_d hs.ok) ?_ | refine d_callq0 (vwant_g rfl rfl rfl) (by decide +kernel) rfl rfl rfl rfl (fun hp' hs => num_d hs.ok) ?_
    first | (apply wm; iterate 5 exact rfl) | (apply dm; iterate 6 exact rfl) | (apply wmg; iterate 7 exact rfl) | (apply dmg; iterate 8 exact rfl)
    refine mv_int (v := .b false) rfl rfl (vi_eqlF ((by simp)))
    refine wo ?_
    exact ⟨trivial, rfl, ⟨rfl, trivial⟩, fun hp h => h.le⟩
   | true =>
    have h3' := ndB_len m hm1
    have hsb := same_bytes hok hok' hm0 hm1
    first | (apply p_callY []; exact (vwant_n rfl); iterate 4 exact rfl) | (apply d_callY []; exact (vwant_n rfl); decide +kernel; (iterate 4 exact rfl)) | (apply p_callY []; exact (vwant_g rfl rfl rfl); iterate 4 exact rfl) | (apply d_callY []; exact (vwant_g rfl rfl rfl); decide +kernel; (iterate 4 exact rfl))
    try (case hok => first | exact rdOk_nil | exact rdOk_b (by decide +kernel) | exact rdOk_c)
    case hC => exact (fun hp' hs ht => nencode_ok hm1 hs.ok (hm.mono fun A c o cs h => h.give0 hs))
    rintro u N3 ⟨w3, rfl, hw3⟩
    obtain ⟨b', ob', oo', rfl, rfl⟩ := hw3.got (by omega)
    rw [List.singleton_append]
    refine wo ?_
    first | refine p_callq (vwant_n rfl) rfl rfl rfl rfl (fun hp' hs => num_d hs.ok) ?_ | refine d_callq (vwant_n rfl) (by decide +kernel) rfl rfl rfl rfl (fun hp' hs => num_d hs.ok) ?_ | refine d_callq0 (vwant_n rfl) (by decide +kernel) rfl rfl rfl rfl (fun hp' hs => num_d hs.ok) ?_ | refine p_callq (vwant_g rfl rfl rfl) rfl rfl rfl rfl (fun hp' hs => num_d hs.ok) ?_ | refine d_callq (vwant_g rfl rfl rfl) (by decide +kernel) rfl rfl rfl rfl (fun hp' hs => num_d hs.ok) ?_ | refine d_callq0 (vwant_g rfl rfl rfl) (by decide +kernel) rfl rfl rfl rfl (fun hp' hs => num_d hs.ok) ?_
    first | (apply wm; iterate 5 exact rfl) | (apply dm; iterate 6 exact rfl) | (apply wmg; iterate 7 exact rfl) | (apply dmg; iterate 8 exact rfl)
    refine mv_int (v := .b true) rfl rfl (vi_eqlT (rfl))
    refine wo ?_
    first | refine zX (m_b2s (op' := false) (xs := ndB n) rfl (all_take _ (by simp))) ?_ | refine yX (m_b2s (op' := false) (xs := ndB n) rfl (all_take _ (by simp))) ?_
    refine wo ?_
    first | refine zX (m_b2s (op' := false) (xs := ndB m) rfl (all_take _ (by simp))) ?_ | refine yX (m_b2s (op' := false) (xs := ndB m) rfl (all_take _ (by simp))) ?_
    first | (apply wm; iterate 5 exact rfl) | (apply dm; iterate 6 exact rfl) | (apply wmg; iterate 7 exact rfl) | (apply dmg; iterate 8 exact rfl)
    refine m_eqs rfl rfl
    first | refine zX (m_ldln (s := 581) (cs := w) rfl (all_take _ hwl) hwl) ?_ | refine yX (m_ldln (s := 581) (cs := w) rfl (all_take _ hwl) hwl) ?_
    first | refine zX (m_ldln (s := 581) (cs := v) rfl (all_take _ hvl) hvl) ?_ | refine yX (m_ldln (s := 581) (cs := v) rfl (all_take _ hvl) hvl) ?_
    first | refine p_callq (vwant_n rfl) rfl rfl rfl rfl (fun hp' hs => nsame_d hs.ok hn hm (fun A c o cs h => h.give0 hs) (fun A c o cs h => h.give0 hs)) ?_ | refine d_callq (vwant_n rfl) (by decide +kernel) rfl rfl rfl rfl (fun hp' hs => nsame_d hs.ok hn hm (fun A c o cs h => h.give0 hs) (fun A c o cs h => h.give0 hs)) ?_ | refine d_callq0 (vwant_n rfl) (by decide +kernel) rfl rfl rfl rfl (fun hp' hs => nsame_d hs.ok hn hm (fun A c o cs h => h.give0 hs) (fun A c o cs h => h.give0 hs)) ?_ | refine p_callq (vwant_g rfl rfl rfl) rfl rfl rfl rfl (fun hp' hs => nsame_d hs.ok hn hm (fun A c o cs h => h.give0 hs) (fun A c o cs h => h.give0 hs)) ?_ | refine d_callq (vwant_g rfl rfl rfl) (by decide +kernel) rfl rfl rfl rfl (fun hp' hs => nsame_d hs.ok hn hm (fun A c o cs h => h.give0 hs) (fun A c o cs h => h.give0 hs)) ?_ | refine d_callq0 (vwant_g rfl rfl rfl) (by decide +kernel) rfl rfl rfl rfl (fun hp' hs => nsame_d hs.ok hn hm (fun A c o cs h => h.give0 hs) (fun A c o cs h => h.give0 hs)) ?_
    first | (apply wm; iterate 5 exact rfl) | (apply dm; iterate 6 exact rfl) | (apply wmg; iterate 7 exact rfl) | (apply dmg; iterate 8 exact rfl)
    refine m_neqb rfl rfl rfl
    rw [hsb, beq_self_eq_true, show (!true) = false from rfl]
    refine wo ?_
    exact ⟨trivial, rfl, ⟨rfl, trivial⟩, fun hp h => h.le⟩
  ·simp only [Prod.mk.injEq] at heq
   obtain ⟨rfl, rfl, rfl⟩ := heq
   refine wo ?_
   first | refine zX (m_ldln (s := 581) (cs := w) rfl (all_take _ hwl) hwl) ?_ | refine yX (m_ldln (s := 581) (cs := w) rfl (all_take _ hwl) hwl) ?_
   first | refine p_callq (vwant_n rfl) rfl rfl rfl rfl (fun hp' hs => ncheck_d hs.ok (hn.mono fun A c o cs h => h.give0 hs)) ?_ | refine d_callq (vwant_n rfl) (by decide +kernel) rfl rfl rfl rfl (fun hp' hs => ncheck_d hs.ok (hn.mono fun A c o cs h => h.give0 hs)) ?_ | refine d_callq0 (vwant_n rfl) (by decide +kernel) rfl rfl rfl rfl (fun hp' hs => ncheck_d hs.ok (hn.mono fun A c o cs h => h.give0 hs)) ?_ | refine p_callq (vwant_g rfl rfl rfl) rfl rfl rfl rfl (fun hp' hs => ncheck_d hs.ok (hn.mono fun A c o cs h => h.give0 hs)) ?_ | refine d_callq (vwant_g rfl rfl rfl) (by decide +kernel) rfl rfl rfl rfl (fun hp' hs => ncheck_d hs.ok (hn.mono fun A c o cs h => h.give0 hs)) ?_ | refine d_callq0 (vwant_g rfl rfl rfl) (by decide +kernel) rfl rfl rfl rfl (fun hp' hs => ncheck_d hs.ok (hn.mono fun A c o cs h => h.give0 hs)) ?_
   rw [if_neg (by rw [hm0]; simp)]
   first | (apply wm; iterate 5 exact rfl) | (apply dm; iterate 6 exact rfl) | (apply wmg; iterate 7 exact rfl) | (apply dmg; iterate 8 exact rfl)
   refine mv_int (v := .b false) rfl rfl (vi_eqlF ((by simp)))
   refine wo ?_
   first | refine p_callq (vwant_n rfl) rfl rfl rfl rfl (fun hp' hs => num_d hs.ok) ?_ | refine d_callq (vwant_n rfl) (by decide +kernel) rfl rfl rfl rfl (fun hp' hs => num_d hs.ok) ?_ | refine d_callq0 (vwant_n rfl) (by decide +kernel) rfl rfl rfl rfl (fun hp' hs => num_d hs.ok) ?_ | refine p_callq (vwant_g rfl rfl rfl) rfl rfl rfl rfl (fun hp' hs => num_d hs.ok) ?_ | refine d_callq (vwant_g rfl rfl rfl) (by decide +kernel) rfl rfl rfl rfl (fun hp' hs => num_d hs.ok) ?_ | refine d_callq0 (vwant_g rfl rfl rfl) (by decide +kernel) rfl rfl rfl rfl (fun hp' hs => num_d hs.ok) ?_
   first | (apply wm; iterate 5 exact rfl) | (apply dm; iterate 6 exact rfl) | (apply wmg; iterate 7 exact rfl) | (apply dmg; iterate 8 exact rfl)
   refine mv_int (v := .b false) rfl rfl (vi_neqF ((by simp)))
   refine wo ?_
   first | (apply wm; iterate 5 exact rfl) | (apply dm; iterate 6 exact rfl) | (apply wmg; iterate 7 exact rfl) | (apply dmg; iterate 8 exact rfl)
   refine mv_int (v := .b false) rfl rfl (vi_neqF ((by simp)))
   refine wo ?_
   exact ⟨trivial, rfl, ⟨rfl, trivial⟩, fun hp h => h.le⟩
 refine wo ?_
 cases hd : ndD raw with
 | none =>
  first | (apply p_callY []; exact (vwant_n rfl); iterate 4 exact rfl) | (apply d_callY []; exact (vwant_n rfl); decide +kernel; (iterate 4 exact rfl)) | (apply p_callY []; exact (vwant_g rfl rfl rfl); iterate 4 exact rfl) | (apply d_callY []; exact (vwant_g rfl rfl rfl); decide +kernel; (iterate 4 exact rfl))
  try (case hok => first | exact rdOk_nil | exact rdOk_b (by decide +kernel) | exact rdOk_c)
  case hC => exact (fun hp' hs ht => ndecode_no hd hs.ok (hA.give0 hs) hc)
  rintro u N rfl
  refine wo ?_
  first | (apply p_op; exact (vwant_n rfl); iterate 4 exact rfl) | (apply d_op; exact (vwant_n rfl); exact rfl; exact noRd rfl; decide +kernel; (iterate 3 exact rfl); rotate_left) | (apply p_op; exact (vwant_g rfl rfl rfl); iterate 4 exact rfl) | (apply d_op; exact (vwant_g rfl rfl rfl); exact rfl; exact noRd rfl; decide +kernel; (iterate 3 exact rfl); rotate_left)
  refine e_alloc (zc := zNC) (by kernel_rfl) fun b13 => ⟨_, rfl, ?_⟩
  try (case hok => first | exact rdOk_nil | exact rdOk_b (by decide +kernel) | exact rdOk_c | (repeat (first | exact rdOk_e | refine rdOk_d (by decide +kernel) ?_ | refine rdOk_n ?_)))
  first | (apply p_do; exact (vwant_n rfl); exact rfl; exact rfl) | (apply d_do; exact (vwant_n rfl); exact rfl; exact noRd rfl; decide +kernel; exact rfl; rotate_left) | (apply p_do; exact (vwant_g rfl rfl rfl); exact rfl; exact rfl) | (apply d_do; exact (vwant_g rfl rfl rfl); exact rfl; exact noRd rfl; decide +kernel; exact rfl; rotate_left)
  refine e_stn (C' := zNC) rfl rfl zNC_ne zNC_len (Nat.le_of_eq zNC_len.symm) (overV_all rfl) ⟨_, rfl, ?_⟩
  try (case hok => first | exact rdOk_nil | exact rdOk_b (by decide +kernel) | exact rdOk_c | (repeat (first | exact rdOk_e | refine rdOk_d (by decide +kernel) ?_ | refine rdOk_n ?_)))
  refine wo ?_
  first | refine p_callq (vwant_n rfl) rfl rfl rfl rfl (fun hp' hs => num_d hs.ok) ?_ | refine d_callq (vwant_n rfl) (by decide +kernel) rfl rfl rfl rfl (fun hp' hs => num_d hs.ok) ?_ | refine d_callq0 (vwant_n rfl) (by decide +kernel) rfl rfl rfl rfl (fun hp' hs => num_d hs.ok) ?_ | refine p_callq (vwant_g rfl rfl rfl) rfl rfl rfl rfl (fun hp' hs => num_d hs.ok) ?_ | refine d_callq (vwant_g rfl rfl rfl) (by decide +kernel) rfl rfl rfl rfl (fun hp' hs => num_d hs.ok) ?_ | refine d_callq0 (vwant_g rfl rfl rfl) (by decide +kernel) rfl rfl rfl rfl (fun hp' hs => num_d hs.ok) ?_
  first | (apply wm; iterate 5 exact rfl) | (apply dm; iterate 6 exact rfl) | (apply wmg; iterate 7 exact rfl) | (apply dmg; iterate 8 exact rfl)
  refine mv_int (v := .b true) rfl rfl (vi_neqT ((by decide)))
  refine wo ?_
  first | refine p_callq (vwant_n rfl) rfl rfl rfl rfl (fun hp' hs => num_d hs.ok) ?_ | refine d_callq (vwant_n rfl) (by decide +kernel) rfl rfl rfl rfl (fun hp' hs => num_d hs.ok) ?_ | refine d_callq0 (vwant_n rfl) (by decide +kernel) rfl rfl rfl rfl (fun hp' hs => num_d hs.ok) ?_ | refine p_callq (vwant_g rfl rfl rfl) rfl rfl rfl rfl (fun hp' hs => num_d hs.ok) ?_ | refine d_callq (vwant_g rfl rfl rfl) (by decide +kernel) rfl rfl rfl rfl (fun hp' hs => num_d hs.ok) ?_ | refine d_callq0 (vwant_g rfl rfl rfl) (by decide +kernel) rfl rfl rfl rfl (fun hp' hs => num_d hs.ok) ?_
  first | (apply wm; iterate 5 exact rfl) | (apply dm; iterate 6 exact rfl) | (apply wmg; iterate 7 exact rfl) | (apply dmg; iterate 8 exact rfl)
  refine mv_int (v := .b true) rfl rfl (vi_eqlT (rfl))
  refine wo ?_
  first | refine zX (m_ldln (s := 581) (cs := zNC) rfl (all_take _ zNC_len) zNC_len) ?_ | refine yX (m_ldln (s := 581) (cs := zNC) rfl (all_take _ zNC_len) zNC_len) ?_
  first | (apply wn; iterate 5 exact rfl) | (apply dn; iterate 5 exact rfl) | (apply wg; iterate 7 exact rfl) | (apply dg; iterate 7 exact rfl)
  refine p_buildS (C := zNC) .nil (by kernel_rfl)
  first | refine p_callq (vwant_n rfl) rfl rfl rfl rfl (fun hp' hs => nsame_d hs.ok (zN_p (P := rbP ⟨hp', []⟩) RB.nil) (zN_p (P := rbP ⟨hp', []⟩) RB.nil) (fun A c o cs h => h) (fun A c o cs h => h)) ?_ | refine d_callq (vwant_n rfl) (by decide +kernel) rfl rfl rfl rfl (fun hp' hs => nsame_d hs.ok (zN_p (P := rbP ⟨hp', []⟩) RB.nil) (zN_p (P := rbP ⟨hp', []⟩) RB.nil) (fun A c o cs h => h) (fun A c o cs h => h)) ?_ | refine d_callq0 (vwant_n rfl) (by decide +kernel) rfl rfl rfl rfl (fun hp' hs => nsame_d hs.ok (zN_p (P := rbP ⟨hp', []⟩) RB.nil) (zN_p (P := rbP ⟨hp', []⟩) RB.nil) (fun A c o cs h => h) (fun A c o cs h => h)) ?_ | refine p_callq (vwant_g rfl rfl rfl) rfl rfl rfl rfl (fun hp' hs => nsame_d hs.ok (zN_p (P := rbP ⟨hp', []⟩) RB.nil) (zN_p (P := rbP ⟨hp', []⟩) RB.nil) (fun A c o cs h => h) (fun A c o cs h => h)) ?_ | refine d_callq (vwant_g rfl rfl rfl) (by decide +kernel) rfl rfl rfl rfl (fun hp' hs => nsame_d hs.ok (zN_p (P := rbP ⟨hp', []⟩) RB.nil) (zN_p (P := rbP ⟨hp', []⟩) RB.nil) (fun A c o cs h => h) (fun A c o cs h => h)) ?_ | refine d_callq0 (vwant_g rfl rfl rfl) (by decide +kernel) rfl rfl rfl rfl (fun hp' hs => nsame_d hs.ok (zN_p (P := rbP ⟨hp', []⟩) RB.nil) (zN_p (P := rbP ⟨hp', []⟩) RB.nil) (fun A c o cs h => h) (fun A c o cs h => h)) ?_
  rw [sameN_t rfl]
  refine wo ?_
  exact w_ret (wend_ret (vres1 (rv_tmp rfl)) rfl)
 | some k =>
  obtain ⟨_, _, _, _, hmk⟩ := ndD_some hd
  have hraw := ndB_of hd
  have h3 := ndB_len k hmk
  first | (apply p_callY []; exact (vwant_n rfl); iterate 4 exact rfl) | (apply d_callY []; exact (vwant_n rfl); decide +kernel; (iterate 4 exact rfl)) | (apply p_callY []; exact (vwant_g rfl rfl rfl); iterate 4 exact rfl) | (apply d_callY []; exact (vwant_g rfl rfl rfl); decide +kernel; (iterate 4 exact rfl))
  try (case hok => first | exact rdOk_nil | exact rdOk_b (by decide +kernel) | exact rdOk_c)
  case hC => exact (fun hp' hs ht => ndecode_ok hd hs.ok (hA.give0 hs) hc)
  rintro u N ⟨w4, rfl, hw4⟩
  have hw4l := hw4.len
  refine wo ?_
  first | (apply p_op; exact (vwant_n rfl); iterate 4 exact rfl) | (apply d_op; exact (vwant_n rfl); exact rfl; exact noRd rfl; decide +kernel; (iterate 3 exact rfl); rotate_left) | (apply p_op; exact (vwant_g rfl rfl rfl); iterate 4 exact rfl) | (apply d_op; exact (vwant_g rfl rfl rfl); exact rfl; exact noRd rfl; decide +kernel; (iterate 3 exact rfl); rotate_left)
  refine e_alloc (zc := zNC) (by kernel_rfl) fun b13 => ⟨_, rfl, ?_⟩
  try (case hok => first | exact rdOk_nil | exact rdOk_b (by decide +kernel) | exact rdOk_c | (repeat (first | exact rdOk_e | refine rdOk_d (by decide +kernel) ?_ | refine rdOk_n ?_)))
  first | (apply p_do; exact (vwant_n rfl); exact rfl; exact rfl) | (apply d_do; exact (vwant_n rfl); exact rfl; exact noRd rfl; decide +kernel; exact rfl; rotate_left) | (apply p_do; exact (vwant_g rfl rfl rfl); exact rfl; exact rfl) | (apply d_do; exact (vwant_g rfl rfl rfl); exact rfl; exact noRd rfl; decide +kernel; exact rfl; rotate_left)
  refine e_stn (C' := w4) rfl rfl (ne_of_len hw4l (by decide)) hw4l (Nat.le_of_eq zNC_len.symm) (overV_all (hw4l.trans zNC_len.symm)) ⟨_, rfl, ?_⟩
  try (case hok => first | exact rdOk_nil | exact rdOk_b (by decide +kernel) | exact rdOk_c | (repeat (first | exact rdOk_e | refine rdOk_d (by decide +kernel) ?_ | refine rdOk_n ?_)))
  refine wo ?_
  first | refine p_callq (vwant_n rfl) rfl rfl rfl rfl (fun hp' hs => num_d hs.ok) ?_ | refine d_callq (vwant_n rfl) (by decide +kernel) rfl rfl rfl rfl (fun hp' hs => num_d hs.ok) ?_ | refine d_callq0 (vwant_n rfl) (by decide +kernel) rfl rfl rfl rfl (fun hp' hs => num_d hs.ok) ?_ | refine p_callq (vwant_g rfl rfl rfl) rfl rfl rfl rfl (fun hp' hs => num_d hs.ok) ?_ | refine d_callq (vwant_g rfl rfl rfl) (by decide +kernel) rfl rfl rfl rfl (fun hp' hs => num_d hs.ok) ?_ | refine d_callq0 (vwant_g rfl rfl rfl) (by decide +kernel) rfl rfl rfl rfl (fun hp' hs => num_d hs.ok) ?_
  first | (apply wm; iterate 5 exact rfl) | (apply dm; iterate 6 exact rfl) | (apply wmg; iterate 7 exact rfl) | (apply dmg; iterate 8 exact rfl)
  refine mv_int (v := .b false) rfl rfl (vi_neqF ((by simp)))
  refine wo ?_
  first | refine zX (m_ldln (s := 581) (cs := w4) rfl (all_take _ hw4l) hw4l) ?_ | refine yX (m_ldln (s := 581) (cs := w4) rfl (all_take _ hw4l) hw4l) ?_
  first | (apply p_callY []; exact (vwant_n rfl); iterate 4 exact rfl) | (apply d_callY []; exact (vwant_n rfl); decide +kernel; (iterate 4 exact rfl)) | (apply p_callY []; exact (vwant_g rfl rfl rfl); iterate 4 exact rfl) | (apply d_callY []; exact (vwant_g rfl rfl rfl); decide +kernel; (iterate 4 exact rfl))
  try (case hok => first | exact rdOk_nil | exact rdOk_b (by decide +kernel) | exact rdOk_c)
  case hC => exact (fun hp' hs ht => nencode_ok hmk hs.ok (hw4.mono fun A c o cs h => h _ _ [] _ hs fun p hp => List.mem_cons_of_mem _ (List.mem_append_left _ hp)))
  rintro u N5 ⟨w5, rfl, hw5⟩
  obtain ⟨b', ob', oo', rfl, rfl⟩ := hw5.got (by omega)
  rw [List.singleton_append]
  refine wo ?_
  first | refine p_callq (vwant_n rfl) rfl rfl rfl rfl (fun hp' hs => num_d hs.ok) ?_ | refine d_callq (vwant_n rfl) (by decide +kernel) rfl rfl rfl rfl (fun hp' hs => num_d hs.ok) ?_ | refine d_callq0 (vwant_n rfl) (by decide +kernel) rfl rfl rfl rfl (fun hp' hs => num_d hs.ok) ?_ | refine p_callq (vwant_g rfl rfl rfl) rfl rfl rfl rfl (fun hp' hs => num_d hs.ok) ?_ | refine d_callq (vwant_g rfl rfl rfl) (by decide +kernel) rfl rfl rfl rfl (fun hp' hs => num_d hs.ok) ?_ | refine d_callq0 (vwant_g rfl rfl rfl) (by decide +kernel) rfl rfl rfl rfl (fun hp' hs => num_d hs.ok) ?_
  first | (apply wm; iterate 5 exact rfl) | (apply dm; iterate 6 exact rfl) | (apply wmg; iterate 7 exact rfl) | (apply dmg; iterate 8 exact rfl)
  refine mv_int (v := .b true) rfl rfl (vi_eqlT (rfl))
  refine wo ?_
  first | refine zX (m_ldln (s := 581) (cs := w4) rfl (all_take _ hw4l) hw4l) ?_ | refine yX (m_ldln (s := 581) (cs := w4) rfl (all_take _ hw4l) hw4l) ?_
  first | refine p_callq (vwant_n rfl) rfl rfl rfl rfl (fun hp' hs => ncheck_d hs.ok (hw4.mono fun A c o cs h => h _ _ [] _ hs fun p hp => List.mem_cons_of_mem _ (List.mem_cons_of_mem _ (List.mem_append_left _ hp)))) ?_ | refine d_callq (vwant_n rfl) (by decide +kernel) rfl rfl rfl rfl (fun hp' hs => ncheck_d hs.ok (hw4.mono fun A c o cs h => h _ _ [] _ hs fun p hp => List.mem_cons_of_mem _ (List.mem_cons_of_mem _ (List.mem_append_left _ hp)))) ?_ | refine d_callq0 (vwant_n rfl) (by decide +kernel) rfl rfl rfl rfl (fun hp' hs => ncheck_d hs.ok (hw4.mono fun A c o cs h => h _ _ [] _ hs fun p hp => List.mem_cons_of_mem _ (List.mem_cons_of_mem _ (List.mem_append_left _ hp)))) ?_ | refine p_callq (vwant_g rfl rfl rfl) rfl rfl rfl rfl (fun hp' hs => ncheck_d hs.ok (hw4.mono fun A c o cs h => h _ _ [] _ hs fun p hp => List.mem_cons_of_mem _ (List.mem_cons_of_mem _ (List.mem_append_left _ hp)))) ?_ | refine d_callq (vwant_g rfl rfl rfl) (by decide +kernel) rfl rfl rfl rfl (fun hp' hs => ncheck_d hs.ok (hw4.mono fun A c o cs h => h _ _ [] _ hs fun p hp => List.mem_cons_of_mem _ (List.mem_cons_of_mem _ (List.mem_append_left _ hp)))) ?_ | refine d_callq0 (vwant_g rfl rfl rfl) (by decide +kernel) rfl rfl rfl rfl (fun hp' hs => ncheck_d hs.ok (hw4.mono fun A c o cs h => h _ _ [] _ hs fun p hp => List.mem_cons_of_mem _ (List.mem_cons_of_mem _ (List.mem_append_left _ hp)))) ?_
  rw [if_pos hmk]
  first | (apply wm; iterate 5 exact rfl) | (apply dm; iterate 6 exact rfl) | (apply wmg; iterate 7 exact rfl) | (apply dmg; iterate 8 exact rfl)
  refine mv_int (v := .b true) rfl rfl (vi_eqlT (rfl))
  refine wo ?_
  first | refine zX (m_b2s (op' := false) (xs := ndB k) rfl (all_take _ (by simp))) ?_ | refine yX (m_b2s (op' := false) (xs := ndB k) rfl (all_take _ (by simp))) ?_
  refine wo ?_
  first | (apply wm; iterate 5 exact rfl) | (apply dm; iterate 6 exact rfl) | (apply wmg; iterate 7 exact rfl) | (apply dmg; iterate 8 exact rfl)
  refine m_b2so rfl hA.1 hA.2
  first | (apply wm; iterate 5 exact rfl) | (apply dm; iterate 6 exact rfl) | (apply wmg; iterate 7 exact rfl) | (apply dmg; iterate 8 exact rfl)
  refine m_eqs rfl rfl
  rw [hraw, beq_self_eq_true]
  refine wo ?_
  exact w_ret (wend_ret (vres1 (rv_tmp rfl)) rfl)
end Go.Proofs.Ytabpegdalmagpaa
namespace Go.Proofs.Ytabpegdalmagpaa
open Go.ChangeShapes Go.WideShapes Go.ChangeAt Go.RowKit Go.Extern.Stop
set_option maxRecDepth 100000 in
theorem nrContract (H : Type) (enc : TypeId × Value → H) (W : World) (base : Nat) (args : Array Value) (ds gs : List (DataW H)) (before : List MemPlace)
  (hval : ∀ (j : Nat) t v, Try.f5.params[j]? = some t → args[j]? = some v → Value.okWide Try.prog W .any base t v)
  (hW : DataW.Whole enc Try.prog Try.f5.params.toList Rows.nodeRoundSpec.vars false W args.toList ds gs before) (hz : (DataW.weightsEach Try.prog (Try.f5.params.toList ++ Rows.nodeRoundSpec.plain.varTypes Try.prog) (ds ++ gs)).all (· ≤ reachBytes) = true) :
  Calls Try.prog 5 args W fun e W' => ∃ v, e = .returned v ∧ Rows.nodeRoundSpec.post enc Try.prog Try.f5 false true false false W args v W' := by
 have hW' := hW
 obtain ⟨p, q, hA0, hV, rfl, hfz, hnd⟩ := hW
 have hA : DataW.TrodAll enc Try.prog W 0 (fun _ => true) true Try.f5.params.toList args.toList ds p := hA0
 rw [Try.params5] at hA hval hz
 obtain ⟨v0, vs0, d0, ds0, p0, q0, e0, rfl, rfl, h0, r0⟩ := trodAll_cons hA
 obtain ⟨v1, vs1, d1, ds1, p1, q1, e1, rfl, rfl, h1, r1⟩ := trodAll_cons r0
 obtain ⟨v2, vs2, d2, ds2, p2, q2, e2, rfl, rfl, h2, r2⟩ := trodAll_cons r1
 obtain ⟨rfl, rfl⟩ := trodAll_nil r2
 obtain rfl : args = #[v0, v1, v2] := by cases args; simp_all
 obtain ⟨rfl, rfl⟩ := trodVars_none hV
 simp only [List.cons_append, List.nil_append, DataW.weightsEach, List.all_append, List.all_nil, List.append_nil, Bool.and_eq_true] at hz
 obtain ⟨e, rfl, hE⟩ := open_node (t := 29) (hval 0 _ v0 rfl rfl) h0 hz.1
 obtain ⟨e', rfl, hE'⟩ := open_node (t := 29) (hval 1 _ v1 rfl rfl) h1 hz.2.1
 obtain ⟨q, xs, c, rfl, hB, hl⟩ := open_bytes (hval 2 _ v2 rfl rfl) h2 hz.2.2.1
 obtain ⟨bs, hbs⟩ : ∃ bs, bs = e.g ++ (e'.g ++ [q]) := ⟨_, rfl⟩
 have hG : AtG bs 0 (e.g ++ (e'.g ++ [q])) := by rw [hbs]; exact AtG.zero
 have hG0 : AtG bs 0 e.g := hG.left
 have hG1 : AtG bs (0 + e.g.length) e'.g := hG.right.left
 have hGq := hG.right.right 0 q rfl
 rw [Nat.add_zero] at hGq
 have hb : ∀ x ∈ bs, GvOk W (gvE bs) x := fun x hx => by
  rw [hbs] at hx
  rcases List.mem_append.1 hx with hx | hx
  ·exact nod_gv hE x hx
  ·rcases List.mem_append.1 hx with hx | hx
   ·exact nod_gv hE' x hx
   ·rw [List.mem_singleton.1 hx]; exact hB.gv
 have hargs : renL (gvE bs) [.agg (nodV 0 e), .agg (nodV (0 + e.g.length) e'), gvV (0 + e.g.length + e'.g.length) q xs.length c] = some [.agg e.cells.toArray, .agg e'.cells.toArray, .slice q.A xs.length c] := by
  have r0 := nod_ren1 hE hG0
  have r1 := nod_ren1 hE' hG1
  have r2 := bok_ren hB hGq
  simp only [renL, r0, r1, r2, Option.bind_some, Option.map_some]
 have hro := fun (j : Nat) (x : GV) (hj : bs[j]? = some x) => gv_ro (gs := []) no_g no_nb hb hj
 have hq := hro _ _ hGq
 rw [hB.cs] at hq
 refine (gv_law (gs := []) no_g no_nb hb kxD_ok hargs (roundlaw_d (gv_okH no_g no_nb hb) (nod_p hro hE hG0) (nod_p hro hE' hG1) hq hB.cap)).mono ?_
 rintro e W' ⟨rfl, hb⟩
 exact ⟨_, rfl, law_post hW' nLaidOut (by kernel_rfl) rfl (by kernel_rfl) rfl rfl rfl rfl hb⟩
set_option maxRecDepth 100000 in
theorem nrLifted (os : Os) (started : os.Started) (H : Type) (enc : TypeId × Value → H) :
  ReturnsInHanded {} Try.checked os 5 .any (Rows.nodeRoundSpec.pre6 enc Try.prog Try.f5 Rows.nodeRoundRow.domain false) (Rows.nodeRoundSpec.post enc Try.prog Try.f5 false true false false) := by
 refine returnsInHanded_of_change_sized (C := Try.checked) (s := Rows.nodeRoundSpec) nOwn started (by kernel_rfl) Try.func5
  (ChangeSpec.witness6 (enc := enc) (C := Try.checked) (s := Rows.nodeRoundSpec) false ⟨#[], #[zNodeV, zNodeV, .slice none 0 0], []⟩ 8 (by kernel_rfl) (by kernel_rfl) (by kernel_rfl) (by kernel_rfl)) ?_
 intro W base args ds gs before hval hW _ hz _
 exact nrContract H enc W base args ds gs before hval hW hz
theorem NodeRound_holds : Rows.NodeRoundSaid :=
 OpenClaim.holds_of_wide 5 Try.f5 rfl rfl rfl rfl rfl rfl rfl ⟨rfl, rfl, rfl, rfl, rfl⟩ rfl rfl rfl rfl rfl (by kernel_rfl) Try.func5 (by kernel_rfl)
  (of_decide_eq_true (by kernel_rfl)) (by unfold Func.isWrapper; rw [if_neg (of_decide_eq_false (by kernel_rfl))]; exact ⟨rfl, rfl⟩)
  (fun os started H enc _ => nrLifted os started H enc)
#print axioms NodeRound_holds
end Go.Proofs.Ytabpegdalmagpaa
