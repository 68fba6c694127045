/- Part 2 of the proof: Vk, Vl, Vn, Vr, Vd, Ve, Vf, Vfp, Vc, Vq. By this project. -/
import Derived.Test.YtabpegdalmagpaaM1
import Derived.Recover
set_option linter.unusedVariables false
set_option linter.unusedSectionVars false
set_option linter.unusedSimpArgs false
set_option maxRecDepth 100000
/- Vk: the machine's maps written, walked over, against the world's. By this project. -/
namespace Go.Proofs.Ytabpegdalmagpaa
open Go.RowKit Go.Extern.Stop
section
variable {P : Program} {C : Cx} (hC : COk P C) {E : Env} {hp : Hp} {w : World} {fr : Tr V} {a : Act}
theorem out_map {h b : Nat} {o : VO} {es' : List (V × V × Nat)} {l' : List MapEntry} {x : Obj} {clock : Nat} (hro : roB h = false) (hR : Rep E hp.t w) (hg : hp.t.get h = some o) (he : E h = some (b, 0, 0)) (hb : w.heap[b]? = some x) (hl : renEs E es' = some l') :
  Out E hp w E (hp.put h (some (.map es' clock))) { w with heap := w.heap.setIfInBounds b (.map l'.toArray clock) } := by
 have hlt := lt_of_heap hb
 exact out_put hro hR hg he ⟨rfl, l', hl, rfl⟩ (by simp [hlt]) (fun k hk => by simp [Ne.symm hk]) (by simp) rfl rfl rfl
theorem renEs_app {es fs : List (V × V × Nat)} {l m : List MapEntry} (h : renEs E es = some l) (k : renEs E fs = some m) : renEs E (es ++ fs) = some (l ++ m) := by
 induction es generalizing l with
 | nil => simp [renEs, mapO_nil] at h; subst h; simpa using k
 | cons e r ih =>
  obtain ⟨kk, v, t, h1, h2, h3, rfl⟩ := renEs_cons h
  exact renEs_mk h1 h2 (ih h3)
theorem renEs_mod {f : V × V × Nat → V × V × Nat} {g : MapEntry → MapEntry} : ∀ {es : List (V × V × Nat)} {l : List MapEntry} {i : Nat}, renEs E es = some l →
  (∀ e k v, es[i]? = some e → ren E e.1 = some k → ren E e.2.1 = some v → ∃ k' v', ren E (f e).1 = some k' ∧ ren E (f e).2.1 = some v' ∧ g ⟨k, v, e.2.2⟩ = ⟨k', v', (f e).2.2⟩) → renEs E (modL f es i) = some (l.toArray.modify i g).toList
 | [], l, i, h, _ => by
  simp [renEs, mapO_nil] at h
  subst h
  simp [modL, renEs, mapO_nil]
 | e :: r, l, 0, h, hf => by
  obtain ⟨k, v, t, h1, h2, h3, rfl⟩ := renEs_cons h
  obtain ⟨k', v', g1, g2, g3⟩ := hf e k v rfl h1 h2
  have := renEs_mk (e := f e) g1 g2 h3
  simp only [modL]
  rw [this, ← g3]
  congr 1
  all_goals simp [Array.toList_modify]
 | e :: r, l, i + 1, h, hf => by
  obtain ⟨k, v, t, h1, h2, h3, rfl⟩ := renEs_cons h
  have ih := renEs_mod (i := i) h3 (fun e k v he => hf e k v (by simpa using he))
  have := renEs_mk (e := e) h1 h2 ih
  simp only [modL]
  rw [this]
  congr 1
  all_goals simp [Array.toList_modify]
theorem renEs_get {es : List (V × V × Nat)} {l : List MapEntry} (h : renEs E es = some l) {i : Nat} {e : V × V × Nat} (he : es[i]? = some e) : ∃ k v, ren E e.1 = some k ∧ ren E e.2.1 = some v ∧ l[i]? = some ⟨k, v, e.2.2⟩ := by
 induction es generalizing l i with
 | nil => simp at he
 | cons q r ih =>
  obtain ⟨k, v, t, h1, h2, h3, rfl⟩ := renEs_cons h
  cases i with
  | zero => simp at he; subst he; exact ⟨k, v, h1, h2, rfl⟩
  | succ i => simpa using ih h3 (by simpa using he)
theorem renEs_len {es : List (V × V × Nat)} {l : List MapEntry} (h : renEs E es = some l) : l.length = es.length := by
 induction es generalizing l with
 | nil => simp [renEs, mapO_nil] at h; subst h; rfl
 | cons q r ih =>
  obtain ⟨k, v, t, h1, h2, h3, rfl⟩ := renEs_cons h
  simp [ih h3]
include hC
theorem vmapup_ok {t : TypeId} {m k v : V} {M K X : Value} {hp' : Hp} (hR : Rep E hp.t w) (h : vmapup C hp t m k v = some hp') (hM : ren E m = some M) (hK : ren E k = some K) (hX : ren E v = some X) : OkU P E hp w (Instr.mapUpdate t M K X) hp' := by
 simp only [vmapup, Option.bind_eq_some_iff] at h
 obtain ⟨ti, hti, h⟩ := h
 have hT := tiV_ok hC hti
 split at h
 ·rename_i kt et hd
  have hu := hT.map hd
  split at h
  ·rename_i r hk
   split at h
   ·rename_i es clock hg
    obtain ⟨hg, hro⟩ := getW_some hg
    simp only [Option.bind_eq_some_iff] at h
    obtain ⟨q, hq, h⟩ := h
    obtain ⟨b, l, g1, g2, g3⟩ := rep_map hR hg
    simp only [ren, g1, Option.map_some, Option.some.injEq] at hM
    subst hM
    obtain ⟨rr, f1, f2⟩ := findKey_ok hC hR hk hK hq g2
    have hck := keyFit_check hC hk hK false w
    cases q with
    | none =>
     simp only [Option.some.injEq] at h
     subst h
     simp only [FindR] at f2
     subst f2
     refine ⟨Nat.le_refl _, fun _ => ⟨_, E, ?_, out_map (clock := clock + 1) (l' := l ++ [⟨K, X, clock⟩]) hro hR hg g1 g3 (renEs_app g2 (renEs_mk (e := (k, v, clock)) hK hX rfl))⟩⟩
     simp only [Instr.mapUpdate, Sem.run_bind, run_underlying hu w, Result.andThen_ok, MapKept.run_getObj_map g3, hck, f1]
     rw [MapKept.run_setObj_map _ g3]
     simp
    | some jv =>
     simp only [Option.some.injEq] at h
     subst h
     obtain ⟨_, kk, bn, x, k2, k3, k4, k5, rfl⟩ := f2
     simp only [Nat.sub_zero] at k2
     obtain ⟨K', V', e1, e2, e3⟩ := renEs_get g2 k2
     rw [k3] at e1
     obtain rfl := Option.some.inj e1
     refine ⟨Nat.le_refl _, fun _ => ⟨_, E, ?_, out_map (clock := clock) hro hR hg g1 g3 (renEs_mod (g := fun e => { e with key := K, val := X }) g2 (fun e kx vx he _ _ => ⟨K, X, hK, hX, rfl⟩))⟩⟩
     simp only [Instr.mapUpdate, Sem.run_bind, run_underlying hu w, Result.andThen_ok, MapKept.run_getObj_map g3, hck, f1]
     have : (((l.toArray)[jv.1]?).map (·.key)).getD K = K := by simp [e3]
     simp only [this, Instr.keyThatStays, k4, if_true, Sem.run_pure, Result.andThen_ok]
     rw [MapKept.run_setObj_map _ g3]
   ·simp at h
  ·simp at h
 ·simp at h
theorem vmapentry_ok {t : TypeId} {m k v : V} {M K : Value} {hp' : Hp} (hR : Rep E hp.t w) (h : vmapentry C hp t m k = some (v, hp')) (hM : ren E m = some M) (hK : ren E k = some K) : OkV P E hp w (Instr.mapEntry t M K) v hp' := by
 simp only [vmapentry, Option.bind_eq_some_iff] at h
 obtain ⟨ti, hti, h⟩ := h
 have hT := tiV_ok hC hti
 split at h
 ·rename_i kt et hd
  have hu := hT.map hd
  split at h
  ·rename_i r hk
   split at h
   ·rename_i es clock hg
    obtain ⟨hg, hro⟩ := getW_some hg
    simp only [Option.bind_eq_some_iff] at h
    obtain ⟨q, hq, h⟩ := h
    obtain ⟨b, l, g1, g2, g3⟩ := rep_map hR hg
    simp only [ren, g1, Option.map_some, Option.some.injEq] at hM
    subst hM
    obtain ⟨rr, f1, f2⟩ := findKey_ok hC hR hk hK hq g2
    have hck := keyFit_check hC hk hK false w
    cases q with
    | none =>
     simp only [Option.bind_eq_some_iff, Option.some.injEq, Prod.mk.injEq] at h
     obtain ⟨ei, hei, z, hz, rfl, rfl⟩ := h
     obtain ⟨zv, z1, z2⟩ := (tiV_ok hC hei).zero hz w
     simp only [FindR] at f2
     subst f2
     refine ⟨Nat.le_refl _, fun _ => ⟨.tuple #[zv, .int .i64 clock], _, E, ?_, by simp [ren, renL, z2 E], out_map (clock := clock + 1) (l' := l ++ [⟨K, zv, clock⟩]) hro hR hg g1 g3 (renEs_app g2 (renEs_mk (e := (k, z, clock)) hK (z2 E) rfl))⟩⟩
     simp only [Instr.mapEntry, Sem.run_bind, run_underlying hu w, Result.andThen_ok, MapKept.run_getObj_map g3, hck, f1, z1]
     rw [MapKept.run_setObj_map _ g3]
     simp [goInt]
    | some jv =>
     simp only [Option.bind_eq_some_iff, Option.some.injEq, Prod.mk.injEq] at h
     obtain ⟨e, he, rfl, rfl⟩ := h
     obtain ⟨_, kk, bn, x, k2, k3, k4, k5, rfl⟩ := f2
     simp only [Nat.sub_zero] at k2
     rw [getL_eq, k2] at he
     obtain rfl := Option.some.inj he
     obtain ⟨K', V', e1, e2, e3⟩ := renEs_get g2 k2
     rw [k3] at e1
     obtain rfl := Option.some.inj e1
     refine ⟨Nat.le_refl _, fun _ => ⟨.tuple #[x, .int .i64 bn], _, E, ?_, by simp [ren, renL, k5], out_map (clock := clock) hro hR hg g1 g3 (renEs_mod (g := fun e => { e with key := K }) g2 (fun e kx vx he _ hv => ⟨K, vx, hK, hv, rfl⟩))⟩⟩
     simp only [Instr.mapEntry, Sem.run_bind, run_underlying hu w, Result.andThen_ok, MapKept.run_getObj_map g3, hck, f1]
     have : (((l.toArray)[jv.1]?).map (·.key)).getD K = K := by simp [e3]
     have hb : ((((l.toArray)[jv.1]?).map (fun x : MapEntry => (x.born : Int))).getD 0) = (bn : Int) := by simp [e3]
     simp only [this, Instr.keyThatStays, k4, if_true, Sem.run_pure, Result.andThen_ok, Sem.run_bind]
     rw [MapKept.run_setObj_map _ g3]
     simp only [Result.andThen_ok, hb]
     simp [goInt]
   ·simp at h
  ·simp at h
 ·simp at h
omit hC in
theorem putBorn_ok {n : Nat} {v : V} {X : Value} (hX : ren E v = some X) : ∀ {es es' : List (V × V × Nat)} {l : List MapEntry}, putBorn n v es = some es' → renEs E es = some l →
  ∃ i, (l.findIdx? fun e => (e.born : Int) == (n : Int)) = some i ∧ renEs E es' = some (l.toArray.modify i fun e => { e with val := X }).toList
 | [], es', l, h, hl => by simp [putBorn] at h
 | e :: r, es', l, h, hl => by
  obtain ⟨k, vv, t, h1, h2, h3, rfl⟩ := renEs_cons hl
  simp only [putBorn] at h
  split at h
  ·rename_i hb
   have hb := Nat.eq_of_beq_eq_true hb
   simp only [Option.some.injEq] at h
   subst h
   refine ⟨0, by simp [List.findIdx?_cons, hb], ?_⟩
   have := renEs_mk (e := (e.1, v, e.2.2)) h1 hX h3
   rw [this]
   congr 1
   all_goals simp [Array.toList_modify]
  ·rename_i hb
   simp only [Option.bind_eq_some_iff, Option.some.injEq] at h
   obtain ⟨r', hr, rfl⟩ := h
   obtain ⟨i, g1, g2⟩ := putBorn_ok hX hr h3
   have hne : ((e.2.2 : Int) == (n : Int)) = false := by
    rw [Bool.eq_false_iff]
    intro e'
    have : e.2.2 = n := by have := beq_iff_eq.1 e'; omega
    rw [this] at hb
    simp [Nat.beq_eq] at hb
   refine ⟨i + 1, by simp [List.findIdx?_cons, hne, g1], ?_⟩
   have := renEs_mk (e := e) h1 h2 g2
   rw [this]
   congr 1
   all_goals simp [Array.toList_modify]
omit hC in
theorem ventryst_ok {t : TypeId} {m st v : V} {M S X : Value} {hp' : Hp} (hR : Rep E hp.t w) (h : ventryst hp m st v = some hp') (hM : ren E m = some M) (hS : ren E st = some S) (hX : ren E v = some X) : OkU P E hp w (Instr.entryStore t M S X) hp' := by
 unfold ventryst at h
 split at h
 ·rename_i r
  split at h
  ·rename_i es clock hg
   obtain ⟨hg, hro⟩ := getW_some hg
   simp only [Option.bind_eq_some_iff, Option.some.injEq, natV] at h
   obtain ⟨n, ⟨z, hz, hn⟩, es', hes, rfl⟩ := h
   have := asNat_some hn
   subst this
   cases st <;> simp [intV?] at hz
   subst hz
   simp only [ren, Option.some.injEq] at hS
   subst hS
   obtain ⟨b, l, g1, g2, g3⟩ := rep_map hR hg
   simp only [ren, g1, Option.map_some, Option.some.injEq] at hM
   subst hM
   obtain ⟨i, f1, f2⟩ := putBorn_ok hX hes g2
   refine ⟨Nat.le_refl _, fun _ => ⟨_, E, ?_, out_map (clock := clock) hro hR hg g1 g3 f2⟩⟩
   have hfi : (l.toArray.findIdx? fun e => (e.born : Int) == (n : Int)) = some i := by simpa using f1
   simp only [Instr.entryStore, Sem.run_bind, Result.andThen_ok, MapKept.run_getObj_map g3, asInt, asIntOf, Sem.run_pure, hfi]
   rw [MapKept.run_setObj_map _ g3]
  ·simp at h
 ·simp at h
omit hC in
theorem eraseL_eq {α : Type} : ∀ (l : List α) (i : Nat), eraseL l i = l.eraseIdx i
 | [], _ => rfl
 | x :: r, 0 => rfl
 | x :: r, i + 1 => by simp [eraseL, eraseL_eq r i]
omit hC in
theorem renEs_erase : ∀ {es : List (V × V × Nat)} {l : List MapEntry} {i : Nat}, renEs E es = some l → renEs E (es.eraseIdx i) = some (l.eraseIdx i)
 | [], l, i, h => by simp [renEs, mapO_nil] at h; subst h; simp [renEs, mapO_nil]
 | e :: r, l, 0, h => by
  obtain ⟨k, v, t, h1, h2, h3, rfl⟩ := renEs_cons h
  exact h3
 | e :: r, l, i + 1, h => by
  obtain ⟨k, v, t, h1, h2, h3, rfl⟩ := renEs_cons h
  exact renEs_mk h1 h2 (renEs_erase h3)
theorem vdelete_ok {t ty : TypeId} {ts : Array TypeId} {m k : V} {M K : Value} {hp' : Hp} (hR : Rep E hp.t w) (hts : ts[0]? = some t) (h : vdelete C hp t m k = some hp') (hM : ren E m = some M) (hK : ren E k = some K) : OkV P E hp w (Builtin.delete_ ts ty #[M, K]) (.tup []) hp' := by
 simp only [vdelete, Option.bind_eq_some_iff] at h
 obtain ⟨ti, hti, h⟩ := h
 have hT := tiV_ok hC hti
 split at h
 ·rename_i kt et hd
  have hu := hT.map hd
  split at h
  ·rename_i hk
   simp only [Option.some.injEq] at h
   subst h
   simp only [ren, Option.some.injEq] at hM
   subst hM
   have hck := keyFit_check hC hk hK true w
   refine okv_same hR (x := .tuple #[]) ?_ rfl
   simp [Builtin.delete_, hts, run_underlying hu w, hck]
  ·rename_i r hk
   split at h
   ·rename_i es clock hg
    obtain ⟨hg, hro⟩ := getW_some hg
    simp only [Option.bind_eq_some_iff] at h
    obtain ⟨q, hq, h⟩ := h
    obtain ⟨b, l, g1, g2, g3⟩ := rep_map hR hg
    simp only [ren, g1, Option.map_some, Option.some.injEq] at hM
    subst hM
    obtain ⟨rr, f1, f2⟩ := findKey_ok hC hR hk hK hq g2
    have hck := fun em => keyFit_check hC hk hK em w
    cases q with
    | none =>
     simp only [Option.some.injEq] at h
     subst h
     simp only [FindR] at f2
     subst f2
     refine ⟨Nat.le_refl _, fun _ => ⟨.tuple #[], _, E, ?_, rfl, out_map (clock := clock) hro hR hg g1 g3 g2⟩⟩
     simp only [Builtin.delete_, Sem.run_bind, run_underlying hu w, Result.andThen_ok, MapKept.run_getObj_map g3, hck, f1, hts]
     simp only [List.getElem?_toArray, List.getElem?_cons_zero, List.getElem?_cons_succ, Sem.run_bind, run_underlying hu w, Result.andThen_ok, MapKept.run_getObj_map g3, hck, f1]
     rw [MapKept.run_setObj_map _ g3]
     rfl
    | some jv =>
     simp only [Option.some.injEq] at h
     subst h
     obtain ⟨_, kk, bn, x, k2, k3, k4, k5, rfl⟩ := f2
     have hj : jv.1 < l.length := by
      rw [renEs_len g2]
      exact (List.getElem?_eq_some_iff.1 k2).1
     refine ⟨Nat.le_refl _, fun _ => ⟨.tuple #[], _, E, ?_, rfl, out_map (clock := clock) hro hR hg g1 g3 (by rw [eraseL_eq]; exact renEs_erase g2)⟩⟩
     simp only [List.getElem?_toArray, List.getElem?_cons_zero, List.getElem?_cons_succ, Builtin.delete_, Sem.run_bind, run_underlying hu w, Result.andThen_ok, MapKept.run_getObj_map g3, hck, f1, hts]
     rw [MapKept.run_setObj_map _ g3]
     simp [Array.eraseIdxIfInBounds, hj]
   ·simp at h
  ·simp at h
 ·simp at h
omit hC in
theorem memN_ok (n : Nat) : ∀ (l : List Nat), memN n l = l.contains n
 | [] => rfl
 | x :: r => by
  simp only [memN, List.contains_cons]
  rw [memN_ok n r]
  by_cases h : x = n
  ·subst h; simp [Nat.beq_eq]
  ·have : Nat.beq x n = false := by rw [Bool.eq_false_iff]; intro e; exact h (Nat.eq_of_beq_eq_true e)
   rw [this]
   have : (n == x) = false := by simpa using fun e => h e.symm
   simp [this]
omit hC in
theorem renEs_filter {p : Nat → Bool} : ∀ {es : List (V × V × Nat)} {l : List MapEntry}, renEs E es = some l → renEs E (es.filter fun e => p e.2.2) = some (l.filter fun e => p e.born)
 | [], l, h => by simp [renEs, mapO_nil] at h; subst h; rfl
 | e :: r, l, h => by
  obtain ⟨k, v, t, h1, h2, h3, rfl⟩ := renEs_cons h
  have ih := renEs_filter (p := p) h3
  by_cases hp : p e.2.2 = true
  ·simp only [List.filter_cons, hp, if_true]
   exact renEs_mk h1 h2 ih
  ·simp only [List.filter_cons, hp]
   exact ih
omit hC in
theorem renEs_all {p : Nat → Bool} : ∀ {es : List (V × V × Nat)} {l : List MapEntry}, renEs E es = some l → (es.all fun e => p e.2.2) = (l.all fun e => p e.born)
 | [], l, h => by simp [renEs, mapO_nil] at h; subst h; rfl
 | e :: r, l, h => by
  obtain ⟨k, v, t, h1, h2, h3, rfl⟩ := renEs_cons h
  simp only [List.all_cons]
  rw [renEs_all h3]
omit hC in
theorem vnext_ok {ty : TypeId} {it v : V} {I : Value} {hp' : Hp} (hR : Rep E hp.t w) (h : vnext hp it = some (v, hp')) (hI : ren E it = some I) : OkV P E hp w (Instr.next I false ty) v hp' := by
 unfold vnext at h
 split at h
 ·rename_i r
  simp only [ren, Option.map_eq_some_iff] at hI
  obtain ⟨⟨b, k, ex⟩, he, rfl⟩ := hI
  split at h
  ·rename_i s1 s2 s3 hg
   obtain ⟨hg, hro⟩ := getW_some hg
   simp only [Option.some.injEq, Prod.mk.injEq] at h
   obtain ⟨rfl, rfl⟩ := h
   obtain ⟨e, x, h1, h2, h3⟩ := hR.has r _ hg
   rw [he] at h1
   obtain rfl := Option.some.inj h1
   obtain ⟨g0, rfl⟩ := h3
   simp only [Prod.mk.injEq] at g0
   obtain ⟨rfl, rfl⟩ := g0
   refine okv_same hR (x := .tuple #[.bool false]) ?_ (by simp [ren, renL])
   simp [Instr.next, getObj, Sem.run, h2]
  ·rename_i m since seen last hg
   obtain ⟨hg, hro⟩ := getW_some hg
   split at h
   ·rename_i es clock hm
    obtain ⟨e, x, h1, h2, h3⟩ := hR.has r _ hg
    rw [he] at h1
    obtain rfl := Option.some.inj h1
    obtain ⟨g0, f, hf, rfl⟩ := h3
    simp only [Prod.mk.injEq] at g0
    obtain ⟨rfl, rfl⟩ := g0
    obtain ⟨b2, l, g1, g2, g3⟩ := rep_map hR hm
    rw [hf] at g1
    obtain rfl := Option.some.inj g1
    have hb2 : (w.heap[b2]?) = some (.map l.toArray clock) := g3
    have hlen := renEs_len g2
    split at h
    ·simp at h
    ·rename_i hall
     have hall' : (!seen.toArray.isEmpty && !l.toArray.isEmpty && l.toArray.all (fun x => decide (x.born ≥ last))) = false := by
      have e1 : (es.all fun e => Nat.ble last e.2.2) = (l.all fun e => Nat.ble last e.born) := renEs_all (p := fun n => Nat.ble last n) g2
      rw [e1] at hall
      have e2 : es.isEmpty = l.isEmpty := by cases es <;> cases l <;> simp at hlen <;> rfl
      rw [e2] at hall
      rw [← hall]
      simp only [List.isEmpty_toArray, List.all_toArray]
      congr 2
      funext x
      rw [Bool.eq_iff_iff]
      simp
     have hfl : (l.toArray.filter fun e => !seen.toArray.contains e.born) = (l.filter fun e => !memN e.born seen).toArray := by
      simp [memN_ok]
     have hfe := renEs_filter (p := fun n => !memN n seen) g2
     split at h
     ·rename_i hnil
      rw [hnil] at hfe
      simp only [renEs, mapO_nil, Option.some.injEq] at hfe
      simp only [Option.some.injEq, Prod.mk.injEq] at h
      obtain ⟨rfl, rfl⟩ := h
      refine okv_same hR (x := .tuple #[.bool false]) ?_ (by simp [ren, renL])
      simp only [Instr.next, getObj, Sem.run_bind, Sem.run, h2, Result.andThen_ok, hb2, hall', Bool.false_eq_true, if_false, hfl, ← hfe]
      simp [choose, Sem.run, Question.forced]
     ·rename_i e' he'
      rw [he'] at hfe
      obtain ⟨kk, vv, t, k1, k2, k3, k4⟩ := renEs_cons hfe
      simp only [renEs, mapO_nil, Option.some.injEq] at k3
      subst k3
      split at h
      ·rename_i hlt
       have hlt : e'.2.2 < since := by simpa [Nat.blt_eq] using hlt
       simp only [Option.some.injEq, Prod.mk.injEq] at h
       obtain ⟨rfl, rfl⟩ := h
       refine ⟨Nat.le_refl _, fun _ => ⟨.tuple #[.bool true, kk, vv], { w with heap := w.heap.setIfInBounds b (.mapIter (some b2) since (seen ++ [e'.2.2]).toArray clock) }, E, ?_, by simp [ren, renL, k1, k2], ?_⟩⟩
       ·simp only [Instr.next, getObj, Sem.run_bind, Sem.run, h2, Result.andThen_ok, hb2, hall', Bool.false_eq_true, if_false, hfl, k4]
        simp [choose, Sem.run, Question.forced, hlt, setObj, h2]
       ·have hlt' := lt_of_heap h2
        exact out_put hro hR hg he ⟨rfl, _, hf, rfl⟩ (by simp [hlt']) (fun q hq => by simp [Ne.symm hq]) (by simp) rfl rfl rfl
      ·simp at h
     ·simp at h
   ·simp at h
  ·simp at h
 ·simp at h
omit hC in
theorem lastN_ok : ∀ (l : List Nat), lastN l = l.toArray.back?
 | [] => rfl
 | [x] => by simp [lastN]
 | x :: y :: r => by
  have := lastN_ok (y :: r)
  simp only [lastN] at this ⊢
  rw [this]
  simp [List.getLast?_cons_cons]
omit hC in
theorem findBorn_ok {n : Nat} : ∀ {es : List (V × V × Nat)} {l : List MapEntry} {e : V × V × Nat}, renEs E es = some l → findBorn n es = some e → ∃ k x b, l.find? (fun y => y.born == n) = some ⟨k, x, b⟩ ∧ ren E e.1 = some k ∧ ren E e.2.1 = some x
 | [], l, e, h, hf => by simp [findBorn] at hf
 | y :: r, l, e, h, hf => by
  obtain ⟨k, v, t, h1, h2, h3, rfl⟩ := renEs_cons h
  simp only [findBorn] at hf
  split at hf
  ·rename_i hb
   have hb := Nat.eq_of_beq_eq_true hb
   simp only [Option.some.injEq] at hf
   subst hf
   exact ⟨k, v, y.2.2, by simp [List.find?, hb], h1, h2⟩
  ·rename_i hb
   have hb : (y.2.2 == n) = false := by
    rw [Bool.eq_false_iff]
    intro e
    have : y.2.2 = n := by simpa using e
    rw [this] at hb
    simp at hb
   obtain ⟨k', x, b, g1, g2⟩ := findBorn_ok h3 hf
   exact ⟨k', x, b, by simp [List.find?, hb]; exact g1, g2⟩
omit hC in
theorem ventry_ok {it v : V} {I : Value} (hR : Rep E hp.t w) (h : ventry hp it = some v) (hI : ren E it = some I) : OkV P E hp w (Instr.entry I) v hp := by
 unfold ventry at h
 split at h
 ·rename_i r
  simp only [ren, Option.map_eq_some_iff] at hI
  obtain ⟨⟨b, k, ex⟩, he, rfl⟩ := hI
  split at h
  ·rename_i m since seen last hg
   simp only [Option.bind_eq_some_iff] at h
   obtain ⟨stamp, hst, h⟩ := h
   split at h
   ·rename_i es clock hm
    split at h
    ·rename_i hcl
     have hcl := Nat.eq_of_beq_eq_true hcl
     subst hcl
     simp only [Option.bind_eq_some_iff, Option.some.injEq] at h
     obtain ⟨e, hf, rfl⟩ := h
     obtain ⟨e0, x, h1, h2, h3⟩ := hR.has r _ hg
     rw [he] at h1
     obtain rfl := Option.some.inj h1
     obtain ⟨g0, f, hf', rfl⟩ := h3
     simp only [Prod.mk.injEq] at g0
     obtain ⟨rfl, rfl⟩ := g0
     obtain ⟨b2, l, g1, g2, g3⟩ := rep_map hR hm
     rw [hf'] at g1
     obtain rfl := Option.some.inj g1
     obtain ⟨kk, vv, bn, q1, q2, q3⟩ := findBorn_ok g2 hf
     rw [lastN_ok] at hst
     refine okv_same hR (x := .tuple #[kk, vv]) ?_ (by simp [ren, renL, q2, q3])
     have q1' : l.toArray.find? (fun y => y.born == stamp) = some ⟨kk, vv, bn⟩ := by simpa using q1
     have h2' : w.heap[b]? = some (.mapIter (some b2) since seen.toArray clock) := h2
     have g3' : w.heap[b2]? = some (.map l.toArray clock) := g3
     simp only [Instr.entry, getObj, Sem.run_bind, Sem.run, Nat.add_zero, h2', g3', Result.andThen_ok, hst, bne_self_eq_false, Bool.false_eq_true, if_false, q1']
     rfl
    ·simp at h
   ·simp at h
  ·simp at h
 ·simp at h
theorem vrange_ok {t : TypeId} {ti : TI} {x v : V} {X : Value} {hp' : Hp} (hR : Rep E hp.t w) (hti : tiV C t = some ti) (h : (match ti.d, x with
      | .map _ _, .m none => ret2 ((hp.new (.iter none 0 [] 0)).bind fun r => some (.p (some (r.1, 0)), r.2))
      | .map _ _, .m (some m) => match hp.get m with
        | some (.map _ clock) => ret2 ((hp.new (.iter (some m) clock [] clock)).bind fun r => some (.p (some (r.1, 0)), r.2))
        | _ => none
      | _, _ => none) = some (.v v, hp')) (hX : ren E x = some X) : OkV P E hp w (Instr.range t X) v hp' := by
  have hT := tiV_ok hC hti
  split at h
  · rename_i k e hd
    simp only [ret2, Option.bind_eq_some_iff, Option.some.injEq, Prod.mk.injEq] at h
    obtain ⟨_, ⟨⟨h', hp1⟩, hn, rfl⟩, h1, rfl⟩ := h
    simp only [VR.v.injEq] at h1
    subst h1
    simp only [ren, Option.some.injEq] at hX
    subst hX
    have hn' := new_some hn
    refine ⟨by simp only; omega, fun hf => ?_⟩
    obtain ⟨q1, rfl, q2, q3⟩ := out_new (E := E) (w := w) (o := .iter none 0 [] 0) (k := 0) (x := .mapIter none 0 #[] 0) hn hR hf ⟨rfl, rfl⟩
    exact ⟨_, _, _, run_range_nilMap w t k e (hT.map hd), by simp [ren, q3], q2⟩
  · rename_i k e m hd
    split at h
    · rename_i es clock hg
      simp only [ret2, Option.bind_eq_some_iff, Option.some.injEq, Prod.mk.injEq] at h
      obtain ⟨_, ⟨⟨h', hp1⟩, hn, rfl⟩, h1, rfl⟩ := h
      simp only [VR.v.injEq] at h1
      subst h1
      obtain ⟨b, l, g1, g2, g3⟩ := rep_map hR hg
      simp only [ren, g1, Option.map_some, Option.some.injEq] at hX
      subst hX
      have hn' := new_some hn
      refine ⟨by simp only; omega, fun hf => ?_⟩
      obtain ⟨q1, rfl, q2, q3⟩ := out_new (E := E) (w := w) (o := .iter (some m) clock [] clock) (k := 0) (x := .mapIter (some b) clock #[] clock) hn hR hf ⟨rfl, _, g1, rfl⟩
      exact ⟨_, _, _, run_range_map w t k e b l.toArray clock (hT.map hd) g3, by simp [ren, q3], q2⟩
    · simp at h
  · simp at h
end
end Go.Proofs.Ytabpegdalmagpaa
/- Vl: the machine's operations, against the world's. By this project. -/
namespace Go.Proofs.Ytabpegdalmagpaa
open Go.RowKit Go.Extern.Stop
def GlE (E : Env) : Prop := ∀ g, g < gMax → E g = some (g, 0, 0)
def CallOk (P : Program) (call : CallF) : Prop := ∀ f args hp r hp', call f args hp = some (r, hp') → Ext hp hp' ∧ callT P f = true ∧
 ∀ E w vargs, Rep E hp.t w → GlE E → renL E args = some vargs → Free E hp.nx hp'.nx → Calls P f vargs.toArray w (CallRes E hp w r hp')
section
variable {P : Program} {C : Cx} (hC : COk P C) {call : CallF} (hcall : CallOk P call) {E : Env} {hp : Hp} {w : World} {fr : Tr V} {a : Act}
theorem upon_v {s : Sem Value} {v : V} {hp' : Hp} (h : OkV P E hp w s v hp') : hp.nx ≤ hp'.nx ∧ (Free E hp.nx hp'.nx → Upon P E hp w (.v v) hp' ((do pure (.value (← s)) : Sem Next).run P w)) :=
 ⟨h.1, fun hf => by
  obtain ⟨x, w', E', h1, h2, h3⟩ := h.2 hf
  rw [Sem.run_bind, h1]
  exact ⟨v, E', rfl, h2, h3⟩⟩
theorem upon_u {s : Sem Unit} {hp' : Hp} (h : OkU P E hp w s hp') : hp.nx ≤ hp'.nx ∧ (Free E hp.nx hp'.nx → Upon P E hp w (.v undV) hp' ((do s; pure .skip : Sem Next).run P w)) :=
 ⟨h.1, fun hf => by
  obtain ⟨w', E', h1, h3⟩ := h.2 hf
  rw [Sem.run_bind, h1]
  exact ⟨E', rfl, h3⟩⟩
theorem ptrV_some {v : V} {p : Nat × Nat} {X : Value} (h : ptrV v = some p) (hX : ren E v = some X) : ∃ b k ex, E p.1 = some (b, k, ex) ∧ X = .pointer (some ⟨b, k + p.2, none⟩) := by
 cases v <;> simp [ptrV] at h
 subst h
 simp only [ren, Option.map_eq_some_iff] at hX
 obtain ⟨⟨b, k, ex⟩, he, rfl⟩ := hX
 exact ⟨b, k, ex, he, rfl⟩
theorem ret1_some {v : Option V} {r : VR} {hp' : Hp} (h : ret1 hp v = some (r, hp')) : ∃ x, v = some x ∧ r = .v x ∧ hp' = hp := by
 simp only [ret1, Option.bind_eq_some_iff, Option.some.injEq, Prod.mk.injEq] at h
 obtain ⟨x, h1, h2, h3⟩ := h
 exact ⟨x, h1, h2.symm, h3.symm⟩
theorem ret2_some {v : Option (V × Hp)} {r : VR} {hp' : Hp} (h : ret2 v = some (r, hp')) : ∃ x, v = some (x, hp') ∧ r = .v x := by
 simp only [ret2, Option.bind_eq_some_iff, Option.some.injEq, Prod.mk.injEq] at h
 obtain ⟨⟨x, hp1⟩, h1, h2, h3⟩ := h
 simp only at h2 h3
 subst h3
 exact ⟨x, h1, h2.symm⟩
theorem ret0_some {v : Option Hp} {r : VR} {hp' : Hp} (h : ret0 v = some (r, hp')) : v = some hp' ∧ r = .v undV := by
 simp only [ret0, Option.bind_eq_some_iff, Option.some.injEq, Prod.mk.injEq] at h
 obtain ⟨x, h1, h2, h3⟩ := h
 subst h3
 exact ⟨h1, h2.symm⟩
theorem natV_some {v : V} {n : Nat} (h : (intV? v).bind asNat = some n) : ∃ k, v = .i k (n : Int) := by
 simp only [Option.bind_eq_some_iff] at h
 obtain ⟨z, h1, h2⟩ := h
 have := asNat_some h2
 subst this
 cases v <;> simp [intV?] at h1
 subst h1
 exact ⟨_, rfl⟩
theorem newcells_ok {cs : List V} {t : TypeId} {L : List Value} {h' : Nat} {hp' : Hp} (hR : Rep E hp.t w) (hn : hp.new (.cells cs t none false) = some (h', hp')) (hL : renL E cs = some L) (h1 : L.all (·.oneCell') = true) :
  hp.nx ≤ hp'.nx ∧ (Free E hp.nx hp'.nx → ∃ E', ren E' (.p (some (h', 0))) = some (.pointer (some ⟨w.heap.size, 0, none⟩)) ∧ Out E hp w E' hp' (w.alloc (.cells L.toArray t))) := by
 have hn' := new_some hn
 refine ⟨by omega, fun hf => ?_⟩
 obtain ⟨q1, rfl, q2, q3⟩ := out_new (E := E) (w := w) (k := 0) (x := .cells L.toArray t) hn hR hf ⟨[], L, [], (0, 0), hL, h1, rfl, by simp, fun _ => ⟨rfl, rfl⟩, fun s hs => by simp at hs, fun _ => rfl, .inl rfl⟩
 exact ⟨_, by simp [ren, q3], q2⟩
include hC
theorem lenV_ok {ty t : TypeId} {ts : Array TypeId} {ti : TI} {x : V} {X : Value} {n : Nat} (hR : Rep E hp.t w) (hts : ts[0]? = some t) (hti : tiV C t = some ti) (h : lenV hp ti.d x = some n) (hX : ren E x = some X) : (Builtin.len_ ts ty #[X]).run P w = .ok (.int .i64 n) w := by
 have hT := tiV_ok hC hti
 unfold lenV at h
 simp only [lenF_eq] at h
 split at h
 ·rename_i s hd
  simp only [Option.some.injEq] at h
  simp only [ren, Option.some.injEq] at hX
  subst h hX
  have hs : (⟨s.toArray⟩ : ByteArray).size = s.length := by simp [ByteArray.size]
  simp [Builtin.len_, hts, run_underlying (hT.str hd) w, goInt, hs]
 ·rename_i e A n' c op hd
  simp only [Option.some.injEq] at h
  subst h
  cases A with
  | none =>
   simp only [ren, Option.some.injEq] at hX
   subst hX
   simp [Builtin.len_, hts, run_underlying (hT.sl hd) w, goInt]
  | some A =>
   obtain ⟨e, _, ⟨_, rfl⟩ | ⟨_, rfl, _, _, rfl⟩⟩ := ren_slk hX <;> simp [Builtin.len_, hts, run_underlying (hT.sl hd) w, goInt]
 ·rename_i n' e hd
  simp only [Option.some.injEq] at h
  subst h
  cases X <;> simp [Builtin.len_, hts, run_underlying (hT.arr hd) w, goInt]
 ·rename_i k e hd
  simp only [Option.some.injEq] at h
  simp only [ren, Option.some.injEq] at hX
  subst h hX
  simp [Builtin.len_, hts, run_underlying (hT.map hd) w, goInt]
 ·rename_i k e r hd
  split at h
  ·rename_i es clock hg
   simp only [Option.some.injEq] at h
   subst h
   obtain ⟨b, l, g1, g2, g3⟩ := rep_map hR hg
   simp only [ren, g1, Option.map_some, Option.some.injEq] at hX
   subst hX
   simp [Builtin.len_, hts, run_underlying (hT.map hd) w, goInt, MapKept.run_getObj_map g3, renEs_len g2]
  ·simp at h
 ·simp at h
omit hC in
theorem vmm_max {x y v : V} {X Y : Value} (h : vmm true x y = some v) (hX : ren E x = some X) (hY : ren E y = some Y) : ∃ Z, ren E v = some Z ∧ Builtin.max2 X Y = pure Z := by
 unfold vmm at h
 split at h
 ·simp only [Option.some.injEq] at h
  simp only [ren, Option.some.injEq] at hX hY
  subst h hX hY
  refine ⟨_, rfl, ?_⟩
  rename_i k a k' b
  simp only [Builtin.max2, intLt_iff]
  by_cases hlt : a < b <;> simp [hlt]
 ·simp at h
omit hC in
theorem vmm_min {x y v : V} {X Y : Value} (h : vmm false x y = some v) (hX : ren E x = some X) (hY : ren E y = some Y) : ∃ Z, ren E v = some Z ∧ Builtin.min2 X Y = pure Z := by
 unfold vmm at h
 split at h
 ·simp only [Option.some.injEq] at h
  simp only [ren, Option.some.injEq] at hX hY
  subst h hX hY
  refine ⟨_, rfl, ?_⟩
  rename_i k a k' b
  simp only [Builtin.min2, intLt_iff]
  by_cases hlt : b < a <;> simp [hlt]
 ·simp at h
omit hC in
theorem foldO_ok {f : V → V → Option V} {g : Value → Value → Sem Value} (hfg : ∀ x y v X Y, f x y = some v → ren E x = some X → ren E y = some Y → ∃ Z, ren E v = some Z ∧ g X Y = pure Z) : ∀ (l : List V) (b v : V) (L : List Value) (B : Value), foldO f l b = some v → renL E l = some L → ren E b = some B →
  ∃ Z, ren E v = some Z ∧ ∀ w, (L.foldlM g B).run P w = .ok Z w
 | [], b, v, L, B, h, hL, hB => by
  simp [foldO] at h
  simp [renL] at hL
  subst h hL
  exact ⟨B, hB, fun w => rfl⟩
 | x :: r, b, v, L, B, h, hL, hB => by
  obtain ⟨X, t, h1, h2, rfl⟩ := renL_cons hL
  simp only [foldO, Option.bind_eq_some_iff] at h
  obtain ⟨c, hc, h⟩ := h
  obtain ⟨Z, g1, g2⟩ := hfg _ _ _ _ _ hc hB h1
  obtain ⟨Y, k1, k2⟩ := foldO_ok hfg r c v t Z h h2 g1
  exact ⟨Y, k1, fun w => by rw [List.foldlM_cons, g2, Sem.run_bind]; simp [k2]⟩
theorem vbuiltin_ok {b : Builtin} {ts : Array TypeId} {ty : TypeId} {cs : Array Bool} {args : List V} {vargs : List Value} {r : VR} {hp' : Hp} (hR : Rep E hp.t w) (h : vbuiltin C hp b ts.toList args = some (r, hp')) (hA : renL E args = some vargs) :
  hp.nx ≤ hp'.nx ∧ (Free E hp.nx hp'.nx → Upon P E hp w r hp' ((builtin b ts ty cs vargs.toArray).run P w)) := by
 unfold vbuiltin at h
 split at h
 ·rename_i tS tX s x hts
  split at h
  ·rename_i ht
   obtain ⟨v, h1, rfl⟩ := ret2_some h
   obtain ⟨S, t, k1, k2, rfl⟩ := renL_cons hA
   obtain ⟨X, t', k3, k4, rfl⟩ := renL_cons k2
   simp only [renL, Option.some.injEq] at k4
   subst k4
   have : ts = #[tS, tX] := by apply Array.ext'; simpa using hts
   subst this
   exact upon_v (vappend_ok hC (ty := ty) hR ht h1 k1 k3)
  ·simp at h
 ·rename_i t rest x hts
  simp only [Option.bind_eq_some_iff] at h
  obtain ⟨ti, hti, h⟩ := h
  obtain ⟨v, h1, rfl, rfl⟩ := ret1_some h
  simp only [Option.bind_eq_some_iff, Option.some.injEq] at h1
  obtain ⟨n, hn, rfl⟩ := h1
  obtain ⟨X, t', k1, k2, rfl⟩ := renL_cons hA
  simp only [renL, Option.some.injEq] at k2
  subst k2
  have h0 : ts[0]? = some t := by rw [← Array.getElem?_toList, hts]; rfl
  exact upon_v (okv_same hR (lenV_ok hC (ty := ty) hR h0 hti hn k1) rfl)
 ·rename_i t rest d x hts
  obtain ⟨v, h1, rfl⟩ := ret2_some h
  obtain ⟨D, t', k1, k2, rfl⟩ := renL_cons hA
  obtain ⟨X, t'', k3, k4, rfl⟩ := renL_cons k2
  simp only [renL, Option.some.injEq] at k4
  subst k4
  have h0 : ts[0]? = some t := by rw [← Array.getElem?_toList, hts]; rfl
  exact upon_v (vcopy_ok hC (ty := ty) hR h0 h1 k1 k3)
 ·rename_i t rest m k hts
  simp only [Option.bind_eq_some_iff, Option.some.injEq, Prod.mk.injEq] at h
  obtain ⟨hp1, h1, rfl, rfl⟩ := h
  obtain ⟨M, t', k1, k2, rfl⟩ := renL_cons hA
  obtain ⟨K, t'', k3, k4, rfl⟩ := renL_cons k2
  simp only [renL, Option.some.injEq] at k4
  subst k4
  have h0 : ts[0]? = some t := by rw [← Array.getElem?_toList, hts]; rfl
  exact upon_v (vdelete_ok hC (ty := ty) hR h0 h1 k1 k3)
 ·rename_i x rest
  obtain ⟨v, h1, rfl, rfl⟩ := ret1_some h
  obtain ⟨X, t', k1, k2, rfl⟩ := renL_cons hA
  obtain ⟨Z, g1, g2⟩ := foldO_ok (P := P) (fun x y v X Y => vmm_max) rest x v t' X h1 k2 k1
  exact upon_v (okv_same hR (by simp only [Builtin.max_]; exact g2 w) g1)
 ·rename_i x rest
  obtain ⟨v, h1, rfl, rfl⟩ := ret1_some h
  obtain ⟨X, t', k1, k2, rfl⟩ := renL_cons hA
  obtain ⟨Z, g1, g2⟩ := foldO_ok (P := P) (fun x y v X Y => vmm_min) rest x v t' X h1 k2 k1
  exact upon_v (okv_same hR (by simp only [Builtin.min_]; exact g2 w) g1)
 ·simp at h
include hcall
theorem vcallF_ok {f : Nat} {args : List V} {vargs : List Value} {r : VR} {hp' : Hp} (hR : Rep E hp.t w) (hG : GlE E) (h : call f args hp = some (r, hp')) (hA : renL E args = some vargs) :
  hp.nx ≤ hp'.nx ∧ (Free E hp.nx hp'.nx → Upon P E hp w r hp' ((callFunc f vargs.toArray).run P w)) := by
 obtain ⟨h1, h2, h3⟩ := hcall _ _ _ _ _ h
 refine ⟨h1.nx, fun hf => ?_⟩
 rw [run_callT h2]
 exact ⟨rfl, h3 E w vargs hR hG hA hf⟩
omit hC hcall in
theorem vop_pure {o : Op} (h : isPure o = true) : vop C call fr hp o = ret1 hp (vpure C fr o) := by cases o <;> first | rfl | (simp [isPure] at h; done)
theorem vop_ok {o : Op} {r : VR} {hp' : Hp} (hR : Rep E hp.t w) (hF : FrR E fr a) (h : vop C call fr hp o = some (r, hp')) (dst : Option Tmp) (ty : TypeId) (ps : String) (af : Array Edge) (gd : Option (Nat × Bool)) :
  hp.nx ≤ hp'.nx ∧ (Free E hp.nx hp'.nx → Upon P E hp w r hp' ((execOp a.eval ⟨dst, o, ty, ps, af, gd⟩).run P w)) := by
 have hG : GlE E := hF.gl
 by_cases hpu : isPure o = true
 ·rw [vop_pure hpu] at h
  obtain ⟨v, h1, rfl, rfl⟩ := ret1_some h
  obtain ⟨x, k1, k2⟩ := vpure_ok hC hF h1 dst ty ps af gd
  refine ⟨Nat.le_refl _, fun _ => ?_⟩
  rw [k2 w]
  exact ⟨v, E, rfl, k1, out_refl hR⟩
 ·unfold vop at h
  split at h
  iterate 15 (· exact (hpu rfl).elim)
  ·rename_i t
   unfold oAlloc at h
   simp only [Option.bind_eq_some_iff] at h
   obtain ⟨ti, hti, z, hz, zc, hzc, h⟩ := h
   obtain ⟨v, h1, rfl⟩ := ret2_some h
   simp only [Option.bind_eq_some_iff, Option.some.injEq, Prod.mk.injEq] at h1
   obtain ⟨⟨h', hp1⟩, hn, rfl, rfl⟩ := h1
   have hT := tiV_ok hC hti
   obtain ⟨zv, z1, z2⟩ := hT.zero hz w
   obtain ⟨L, g1, g2, g3⟩ := ren_cells (z2 E) hzc
   obtain ⟨q1, q2⟩ := newcells_ok hR hn g1 g2
   refine upon_v (s := Instr.alloc t true (.tuple #[])) ⟨q1, fun hf => ?_⟩
   obtain ⟨E', e1, e2⟩ := q2 hf
   exact ⟨_, _, E', by simp [Instr.alloc, z1, newVar, newRow, g3], e1, e2⟩
  ·rename_i t x
   unfold oBox at h
   simp only [Option.bind_eq_some_iff] at h
   obtain ⟨v, hv, vc, hvc, h⟩ := h
   obtain ⟨u, h1, rfl⟩ := ret2_some h
   simp only [Option.bind_eq_some_iff, Option.some.injEq, Prod.mk.injEq] at h1
   obtain ⟨⟨h', hp1⟩, hn, rfl, rfl⟩ := h1
   obtain ⟨L, g1, g2, g3⟩ := ren_cells (hF.ev hv) hvc
   obtain ⟨q1, q2⟩ := newcells_ok hR hn g1 g2
   refine upon_v (s := Instr.box t (a.eval x)) ⟨q1, fun hf => ?_⟩
   obtain ⟨E', e1, e2⟩ := q2 hf
   exact ⟨_, _, E', by simp [Instr.box, newVar, newRow, g3], e1, e2⟩
  ·rename_i t len parts
   obtain ⟨u, h1, rfl⟩ := ret2_some h
   have := vbuildS_ok hC hR hF h1
   have e : (parts.toList.map fun x => (x.1, a.eval x.2)).toArray = parts.map fun (x : Nat × Operand) => (x.1, a.eval x.2) := by apply Array.ext'; simp
   rw [e] at this
   exact upon_v this
  ·rename_i t x
   unfold oLoad at h
   simp only [Option.bind_eq_some_iff] at h
   obtain ⟨p, ⟨xv, hx, hp1⟩, cs, hcs, h⟩ := h
   obtain ⟨v, h1, rfl, rfl⟩ := ret1_some h
   obtain ⟨b, k, ex, he, hX⟩ := ptrV_some hp1 (hF.ev hx)
   obtain ⟨b', k', ex', X, g1, g2, g3⟩ := load_ok hC hR hcs h1
   rw [he] at g1
   simp only [Option.some.injEq, Prod.mk.injEq] at g1
   obtain ⟨rfl, rfl, rfl⟩ := g1
   exact upon_v (s := Instr.loadAt t (a.eval x)) (okv_same hR (by rw [hX]; simp only [Instr.loadAt, Instr.sureAddr, Sem.run_bind, Sem.run_pure, Result.andThen_ok]; exact g3) g2)
  ·rename_i t x y
   unfold oStore at h
   simp only [Option.bind_eq_some_iff] at h
   obtain ⟨p, ⟨xv, hx, hp1⟩, v, hv, vc, hvc, ti, hti, h⟩ := h
   split at h
   ·rename_i hsz
    have hsz := Nat.eq_of_beq_eq_true hsz
    obtain ⟨h1, rfl⟩ := ret0_some h
    obtain ⟨b, k, ex, he, hX⟩ := ptrV_some hp1 (hF.ev hx)
    obtain ⟨L, g1, g2, g3⟩ := ren_cells (hF.ev hv) hvc
    obtain ⟨q1, q2, q3, q4⟩ := storeV_ok hR h1 g1 g2 he
    have hT := tiV_ok hC hti
    refine upon_u (s := Instr.storeAt t (a.eval x) (a.eval y)) ⟨by omega, fun _ => ⟨_, E, ?_, q4⟩⟩
    have hst := run_storeCells_cells (P := P) b (k + p.2) L 0 w (by simpa using q2) (by simpa using q3) (fun u hu => List.all_eq_true.1 g2 u hu)
    simp only [Nat.add_zero] at hst
    have hlen : L.length = ti.size := by rw [renL_len g1, ← lenF_eq, hsz]
    rw [hX]
    simp only [Instr.storeAt, Instr.sureAddr, Sem.run_bind, Sem.run_pure, Result.andThen_ok, storeVar, hT.size w, g3, List.size_toArray, hlen, ne_eq, not_true_eq_false, if_false]
    exact hst
   ·simp at h
  ·rename_i op t x y t'
   unfold oBin at h
   simp only [Option.bind_eq_some_iff] at h
   obtain ⟨p, hp1, q, hq, h⟩ := h
   obtain ⟨v, h1, rfl, rfl⟩ := ret1_some h
   obtain ⟨Z, g1, g2⟩ := vbin_ok hC hR h1 (hF.ev hp1) (hF.ev hq)
   exact upon_v (s := do eqGuard op t x y (a.eval x) (a.eval y); binOp op t (a.eval x) (a.eval y)) (okv_same hR g2 g1)
  ·rename_i s t x
   unfold oConv at h
   simp only [Option.bind_eq_some_iff] at h
   obtain ⟨p, hp1, h⟩ := h
   obtain ⟨v, h1, rfl⟩ := ret2_some h
   exact upon_v (vconv_ok hC hR h1 (hF.ev hp1))
  ·rename_i t rr
   unfold oMkMap at h
   simp only [Option.bind_eq_some_iff] at h
   obtain ⟨_, hr, h⟩ := h
   obtain ⟨v, h1, rfl⟩ := ret2_some h
   simp only [Option.bind_eq_some_iff, Option.some.injEq, Prod.mk.injEq] at h1
   obtain ⟨⟨h', hp1⟩, hn, rfl, rfl⟩ := h1
   have hn' := new_some hn
   refine upon_v (s := Instr.makeMap t (rr.map a.eval)) ⟨by simp only; omega, fun hf => ?_⟩
   obtain ⟨q1, rfl, q2, q3⟩ := out_new (E := E) (w := w) (o := .map [] 0) (k := 0) (x := .map #[] 0) hn hR hf ⟨rfl, [], rfl, rfl⟩
   refine ⟨.map (some w.heap.size), _, _, ?_, by simp [ren, q3], q2⟩
   cases rr with
   | none => simp [Instr.makeMap, newObj]; rfl
   | some x =>
    simp only [Option.bind_eq_some_iff] at hr
    obtain ⟨q, hq, n, hn2, ti, hti, hr⟩ := hr
    split at hr
    ·rename_i k e hd
     cases q <;> simp [intV?] at hn2
     have := hF.ev hq
     simp only [ren, Option.some.injEq] at this
     simp [Instr.makeMap, newObj, ← this, run_underlying ((tiV_ok hC hti).map hd) w, asInt, asIntOf]
     rfl
    ·simp at hr
  ·rename_i t l c
   unfold oMkSl at h
   simp only [Option.bind_eq_some_iff] at h
   obtain ⟨ln, ⟨lv, hl, hln⟩, cn, ⟨cv, hcv, hcn⟩, h⟩ := h
   obtain ⟨v, h1, rfl⟩ := ret2_some h
   obtain ⟨k1, rfl⟩ := natV_some hln
   obtain ⟨k2, rfl⟩ := natV_some hcn
   have e1 := hF.ev hl
   have e2 := hF.ev hcv
   simp only [ren, Option.some.injEq] at e1 e2
   have := upon_v (vmakeS_ok hC (k1 := k1) (k2 := k2) hR h1)
   rw [e1, e2] at this
   exact this
  ·rename_i t x lo hi mx
   unfold oSlice at h
   simp only [Option.bind_eq_some_iff] at h
   obtain ⟨p, hp1, h⟩ := h
   split at h
   ·rename_i y h1
    simp only [Option.some.injEq, Prod.mk.injEq] at h
    obtain ⟨rfl, rfl⟩ := h
    exact upon_v (vslice_ok hC hR hF h1 (hF.ev hp1))
   ·obtain ⟨v, h1, rfl⟩ := ret2_some h
    exact upon_v (vslEnd_ok hC hR hF h1 (hF.ev hp1))
  ·rename_i t x k ok
   unfold oLookup at h
   simp only [Option.bind_eq_some_iff] at h
   obtain ⟨p, hp1, q, hq, h⟩ := h
   obtain ⟨v, h1, rfl, rfl⟩ := ret1_some h
   exact upon_v (vlookup_ok hC hR h1 (hF.ev hp1) (hF.ev hq))
  ·rename_i t m k x
   unfold oMapup at h
   simp only [Option.bind_eq_some_iff] at h
   obtain ⟨p, hp1, q, hq, u, hu, h⟩ := h
   obtain ⟨h1, rfl⟩ := ret0_some h
   exact upon_u (vmapup_ok hC hR h1 (hF.ev hp1) (hF.ev hq) (hF.ev hu))
  ·rename_i t m k x
   unfold oMapup at h
   simp only [Option.bind_eq_some_iff] at h
   obtain ⟨p, hp1, q, hq, u, hu, h⟩ := h
   obtain ⟨h1, rfl⟩ := ret0_some h
   exact upon_u (vmapup_ok hC hR h1 (hF.ev hp1) (hF.ev hq) (hF.ev hu))
  ·rename_i t m k
   unfold oEntry at h
   simp only [Option.bind_eq_some_iff] at h
   obtain ⟨p, hp1, q, hq, h⟩ := h
   obtain ⟨v, h1, rfl⟩ := ret2_some h
   exact upon_v (vmapentry_ok hC hR h1 (hF.ev hp1) (hF.ev hq))
  ·rename_i t m st x
   unfold oEntrySt at h
   simp only [Option.bind_eq_some_iff] at h
   obtain ⟨p, hp1, q, hq, u, hu, h⟩ := h
   obtain ⟨h1, rfl⟩ := ret0_some h
   exact upon_u (ventryst_ok hR h1 (hF.ev hp1) (hF.ev hq) (hF.ev hu))
  ·rename_i t x
   unfold oRange at h
   simp only [Option.bind_eq_some_iff] at h
   obtain ⟨ti, hti, p, hp1, h⟩ := h
   obtain ⟨v, rfl⟩ : ∃ v, r = .v v := by
    split at h
    ·obtain ⟨v, _, rfl⟩ := ret2_some h; exact ⟨v, rfl⟩
    ·split at h
     ·obtain ⟨v, _, rfl⟩ := ret2_some h; exact ⟨v, rfl⟩
     ·simp at h
    ·simp at h
   exact upon_v (vrange_ok hC hR hti h (hF.ev hp1))
  ·rename_i it isStr
   unfold oNext at h
   split at h
   ·simp at h
   ·simp only [Option.bind_eq_some_iff] at h
    obtain ⟨p, hp1, h⟩ := h
    obtain ⟨v, h1, rfl⟩ := ret2_some h
    exact upon_v (vnext_ok hR h1 (hF.ev hp1))
  ·rename_i it
   unfold oIter at h
   simp only [Option.bind_eq_some_iff] at h
   obtain ⟨p, hp1, h⟩ := h
   obtain ⟨v, h1, rfl, rfl⟩ := ret1_some h
   exact upon_v (ventry_ok hR h1 (hF.ev hp1))
  ·rename_i x
   unfold oPanic at h
   simp only [Option.bind_eq_some_iff] at h
   obtain ⟨p, hp1, h⟩ := h
   split at h
   ·simp only [Option.some.injEq, Prod.mk.injEq] at h
    obtain ⟨rfl, rfl⟩ := h
    have e := hF.ev hp1
    have e0 := e
    simp only [ren, Option.map_eq_some_iff] at e
    obtain ⟨Y, _, hY⟩ := e
    refine ⟨Nat.le_refl _, fun _ => ?_⟩
    simp only [execOp, ← hY]
    exact ⟨_, E, rfl, by rw [e0, hY], out_refl hR⟩
   ·simp at h
  ·rename_i c
   unfold oCall at h
   split at h
   ·rename_i b hb
    simp only [Option.bind_eq_some_iff] at h
    obtain ⟨args, hargs, h⟩ := h
    have hA := hF.evs hargs
    obtain ⟨q1, q2⟩ := vbuiltin_ok hC (ty := ty) (cs := c.args.map fun | .const _ => true | _ => false) hR h hA
    refine ⟨q1, fun hf => ?_⟩
    have := q2 hf
    simp only [execOp, Sem.run_bind, resolve, hb, Sem.run_pure, Result.andThen_ok, invoke]
    have e : c.args.map a.eval = (c.args.toList.map a.eval).toArray := by apply Array.ext'; simp
    rw [e]
    exact this
   ·rename_i f hb
    simp only [Option.bind_eq_some_iff] at h
    obtain ⟨fv, hfv, args, hargs, h⟩ := h
    have hA := hF.evs hargs
    have e1 := hF.ev hfv
    split at h
    ·rename_i ff first cap
     simp only [ren, Option.bind_eq_some_iff, Option.map_eq_some_iff] at e1
     obtain ⟨fl, hfl, cl, hcl, e1⟩ := e1
     obtain ⟨q1, q2⟩ := vcallF_ok hC hcall hR hG h ((by rw [appF_eq, appF_eq, ← List.append_assoc]; exact renL_app (renL_app hfl hA) hcl))
     refine ⟨q1, fun hf => ?_⟩
     have := q2 hf
     simp only [execOp, Sem.run_bind, resolve, hb, ← e1, Deferred.ofValue, Sem.run_pure, Result.andThen_ok, invoke]
     have e : fl.toArray ++ c.args.map a.eval ++ cl.toArray = (fl ++ c.args.toList.map a.eval ++ cl).toArray := by apply Array.ext'; simp
     rw [e]
     exact this
    ·simp at h
   ·rename_i rr name hb
    simp only [Option.bind_eq_some_iff] at h
    obtain ⟨rv, hrv, args, hargs, h⟩ := h
    have hA := hF.evs hargs
    have e1 := hF.ev hrv
    split at h
    ·rename_i t v
     simp only [Option.bind_eq_some_iff] at h
     obtain ⟨f, hf, h⟩ := h
     simp only [ren, Option.map_eq_some_iff] at e1
     obtain ⟨X, hX, e1⟩ := e1
     obtain ⟨q1, q2⟩ := vcallF_ok hC hcall hR hG h (vargs := X :: c.args.toList.map a.eval) (by simp [renL, hX, hA])
     refine ⟨q1, fun hf' => ?_⟩
     have := q2 hf'
     simp only [execOp, Sem.run_bind, resolve, hb, ← e1, Sem.run_pure, Result.andThen_ok, invoke]
     have e0 : (#[Value.iface t X] ++ c.args.map a.eval)[0]? = some (.iface t X) := by
      rw [Array.getElem?_append_left (by simp)]; rfl
     simp only [e0, callMethod, Sem.run_bind]
     have hM := hC.M t name f hf X w
     simp only [program, Sem.run, Result.andThen_ok, hM]
     have e : #[X] ++ (#[Value.iface t X] ++ c.args.map a.eval).extract 1 (#[Value.iface t X] ++ c.args.map a.eval).size = (X :: c.args.toList.map a.eval).toArray := by
      apply Array.ext'; simp [List.take_of_length_le]
     first
     | (rw [e]; exact this)
     | (simp only [e]; exact this)
    ·simp at h
  ·simp at h
end
/- Vn: the machine's handles only grow. By this project. -/
theorem storeV_nx {hp hp' : Hp} {h o : Nat} {vs : List V} (hs : storeV hp h o vs = some hp') : Ext hp hp' := by
 cases vs with
 | nil => simp [storeV] at hs; subst hs; exact ext_refl _
 | cons v r =>
  simp only [storeV] at hs
  split at hs
  ·split at hs
   ·simp only [Option.some.injEq] at hs; subst hs; exact ext_put _ _ _
   ·simp at hs
  ·simp at hs
theorem vappend_nx {C : Cx} {hp hp' : Hp} {t : TypeId} {s x v : V} (h : vappend C hp t s x = some (v, hp')) : Ext hp hp' := by
 simp only [vappend, Option.bind_eq_some_iff] at h
 obtain ⟨si, hsi, h⟩ := h
 split at h
 ·simp only [Option.bind_eq_some_iff] at h
  obtain ⟨ei, hei, nx, hnx, h⟩ := h
  split at h
  ·split at h
   ·split at h
    ·simp only [Option.some.injEq, Prod.mk.injEq] at h; rw [← h.2]; first | exact ext_refl _ | exact ext_put _ _ _
    ·simp at h
   ·simp only [Option.bind_eq_some_iff, Option.some.injEq, Prod.mk.injEq] at h
    obtain ⟨hp1, h1, _, rfl⟩ := h
    exact storeV_nx h1
  ·split at h
   ·simp at h
   ·split at h
    ·split at h
     ·simp only [Option.bind_eq_some_iff, Option.some.injEq, Prod.mk.injEq] at h
      obtain ⟨⟨_, _⟩, h1, _, rfl⟩ := h
      exact new_nx h1
     ·simp at h
    ·simp only [Option.bind_eq_some_iff, Option.some.injEq, Prod.mk.injEq] at h
     obtain ⟨_, _, ⟨_, _⟩, h1, _, rfl⟩ := h
     exact new_nx h1
    ·split at h
     ·split at h
      ·simp only [Option.bind_eq_some_iff, Option.some.injEq, Prod.mk.injEq] at h
       obtain ⟨_, _, ⟨_, _⟩, h1, _, rfl⟩ := h
       exact (ext_put _ _ _).trans (new_nx h1)
      ·simp at h
     ·simp at h
 ·simp at h
theorem vcopy_nx {C : Cx} {hp hp' : Hp} {t : TypeId} {s x v : V} (h : vcopy C hp t s x = some (v, hp')) : Ext hp hp' := by
 simp only [vcopy, Option.bind_eq_some_iff] at h
 obtain ⟨si, hsi, h⟩ := h
 split at h
 ·simp only [Option.bind_eq_some_iff] at h
  obtain ⟨ei, hei, nx, hnx, h⟩ := h
  split at h
  ·simp only [Option.some.injEq, Prod.mk.injEq] at h; rw [← h.2]; first | exact ext_refl _ | exact ext_put _ _ _
  ·simp only [Option.bind_eq_some_iff, Option.some.injEq, Prod.mk.injEq] at h
   obtain ⟨hp1, h1, _, rfl⟩ := h
   exact storeV_nx h1
 ·simp at h
theorem vconv_nx {C : Cx} {hp hp' : Hp} {s t : TypeId} {x v : V} (h : vconv C hp s t x = some (v, hp')) : Ext hp hp' := by
 simp only [vconv, Option.bind_eq_some_iff] at h
 obtain ⟨si, hsi, ti, hti, h⟩ := h
 split at h
 ·simp only [Option.some.injEq, Prod.mk.injEq] at h; rw [← h.2]; first | exact ext_refl _ | exact ext_put _ _ _
 ·simp only [Option.some.injEq, Prod.mk.injEq] at h; rw [← h.2]; first | exact ext_refl _ | exact ext_put _ _ _
 ·simp only [Option.bind_eq_some_iff] at h
  obtain ⟨ei, hei, h⟩ := h
  split at h
  ·simp only [Option.bind_eq_some_iff, Option.some.injEq, Prod.mk.injEq] at h
   obtain ⟨⟨_, _⟩, h1, _, rfl⟩ := h
   exact new_nx h1
  ·simp at h
 ·split at h
  ·simp only [Option.bind_eq_some_iff] at h
   obtain ⟨ei, hei, h⟩ := h
   split at h
   ·split at h
    ·simp only [Option.some.injEq, Prod.mk.injEq] at h; rw [← h.2]; first | exact ext_refl _ | exact ext_put _ _ _
    ·simp at h
   ·simp at h
  ·simp at h
 ·simp only [Option.bind_eq_some_iff] at h
  obtain ⟨ei, hei, h⟩ := h
  split at h
  ·simp at h
  ·simp only [Option.bind_eq_some_iff, Option.some.injEq, Prod.mk.injEq] at h
   obtain ⟨_, _, _, _, _, rfl⟩ := h
   first | exact ext_refl _ | exact ext_put _ _ _
 ·simp only [Option.bind_eq_some_iff] at h
  obtain ⟨ei, hei, h⟩ := h
  split at h
  ·split at h
   ·simp only [Option.some.injEq, Prod.mk.injEq] at h; rw [← h.2]; first | exact ext_refl _ | exact ext_put _ _ _
   ·simp only [Option.bind_eq_some_iff, Option.some.injEq, Prod.mk.injEq] at h
    obtain ⟨_, _, _, _, _, rfl⟩ := h
    first | exact ext_refl _ | exact ext_put _ _ _
  ·simp at h
 ·simp at h
theorem vmapup_nx {C : Cx} {hp hp' : Hp} {t : TypeId} {m k v : V} (h : vmapup C hp t m k v = some hp') : Ext hp hp' := by
 simp only [vmapup, Option.bind_eq_some_iff] at h
 obtain ⟨ti, hti, h⟩ := h
 split at h
 ·split at h
  ·split at h
   ·simp only [Option.bind_eq_some_iff] at h
    obtain ⟨q, hq, h⟩ := h
    split at h <;> (simp only [Option.some.injEq] at h; subst h; first | exact ext_refl _ | exact ext_put _ _ _)
   ·simp at h
  ·simp at h
 ·simp at h
theorem vmapentry_nx {C : Cx} {hp hp' : Hp} {t : TypeId} {m k v : V} (h : vmapentry C hp t m k = some (v, hp')) : Ext hp hp' := by
 simp only [vmapentry, Option.bind_eq_some_iff] at h
 obtain ⟨ti, hti, h⟩ := h
 split at h
 ·split at h
  ·split at h
   ·simp only [Option.bind_eq_some_iff] at h
    obtain ⟨q, hq, h⟩ := h
    split at h
    ·simp only [Option.bind_eq_some_iff, Option.some.injEq, Prod.mk.injEq] at h
     obtain ⟨_, _, _, rfl⟩ := h
     first | exact ext_refl _ | exact ext_put _ _ _
    ·simp only [Option.bind_eq_some_iff, Option.some.injEq, Prod.mk.injEq] at h
     obtain ⟨_, _, _, _, _, rfl⟩ := h
     first | exact ext_refl _ | exact ext_put _ _ _
   ·simp at h
  ·simp at h
 ·simp at h
theorem ventryst_nx {hp hp' : Hp} {m st v : V} (h : ventryst hp m st v = some hp') : Ext hp hp' := by
 unfold ventryst at h
 split at h
 ·split at h
  ·simp only [Option.bind_eq_some_iff, Option.some.injEq] at h
   obtain ⟨_, _, _, _, rfl⟩ := h
   first | exact ext_refl _ | exact ext_put _ _ _
  ·simp at h
 ·simp at h
theorem vdelete_nx {C : Cx} {hp hp' : Hp} {t : TypeId} {m k : V} (h : vdelete C hp t m k = some hp') : Ext hp hp' := by
 simp only [vdelete, Option.bind_eq_some_iff] at h
 obtain ⟨ti, hti, h⟩ := h
 split at h
 ·split at h
  ·simp only [Option.some.injEq] at h; subst h; first | exact ext_refl _ | exact ext_put _ _ _
  ·split at h
   ·simp only [Option.bind_eq_some_iff] at h
    obtain ⟨q, hq, h⟩ := h
    split at h <;> (simp only [Option.some.injEq] at h; subst h; first | exact ext_refl _ | exact ext_put _ _ _)
   ·simp at h
  ·simp at h
 ·simp at h
theorem vnext_nx {hp hp' : Hp} {it v : V} (h : vnext hp it = some (v, hp')) : Ext hp hp' := by
 unfold vnext at h
 split at h
 ·split at h
  ·simp only [Option.some.injEq, Prod.mk.injEq] at h; rw [← h.2]; first | exact ext_refl _ | exact ext_put _ _ _
  ·split at h
   ·split at h
    ·simp at h
    ·split at h
     ·simp only [Option.some.injEq, Prod.mk.injEq] at h; rw [← h.2]; first | exact ext_refl _ | exact ext_put _ _ _
     ·split at h
      ·simp only [Option.some.injEq, Prod.mk.injEq] at h; rw [← h.2]; first | exact ext_refl _ | exact ext_put _ _ _
      ·simp at h
     ·simp at h
   ·simp at h
  ·simp at h
 ·simp at h
theorem vmakeS_nx {C : Cx} {hp hp' : Hp} {t : TypeId} {l c : Nat} {v : V} (h : vmakeS C hp t l c = some (v, hp')) : Ext hp hp' := by
 simp only [vmakeS, Option.bind_eq_some_iff] at h
 obtain ⟨ti, hti, h⟩ := h
 split at h
 ·simp only [Option.bind_eq_some_iff] at h
  obtain ⟨_, _, _, _, _, _, h⟩ := h
  split at h
  ·simp only [Option.bind_eq_some_iff, Option.some.injEq, Prod.mk.injEq] at h
   obtain ⟨⟨_, _⟩, h1, _, rfl⟩ := h
   exact new_nx h1
  ·simp at h
 ·simp at h
theorem vbuildS_nx {C : Cx} {hp hp' : Hp} {fr : Tr V} {t : TypeId} {l : Nat} {ps : List (Nat × Operand)} {v : V} (h : vbuildS C hp fr t l ps = some (v, hp')) : Ext hp hp' := by
 simp only [vbuildS, Option.bind_eq_some_iff] at h
 obtain ⟨ti, hti, h⟩ := h
 split at h
 ·simp only [Option.bind_eq_some_iff] at h
  obtain ⟨_, _, _, _, _, _, h⟩ := h
  split at h
  ·simp only [Option.bind_eq_some_iff, Option.some.injEq, Prod.mk.injEq] at h
   obtain ⟨_, _, ⟨_, _⟩, h1, _, rfl⟩ := h
   exact new_nx h1
  ·simp at h
 ·simp at h
theorem vbuiltin_nx {C : Cx} {hp hp' : Hp} {b : Builtin} {ts : List TypeId} {args : List V} {r : VR} (h : vbuiltin C hp b ts args = some (r, hp')) : Ext hp hp' := by
 unfold vbuiltin at h
 split at h
 ·split at h
  ·obtain ⟨v, h1, _⟩ := ret2_some h
   exact vappend_nx h1
  ·simp at h
 ·simp only [Option.bind_eq_some_iff] at h
  obtain ⟨ti, hti, h⟩ := h
  obtain ⟨v, h1, _, rfl⟩ := ret1_some h
  first | exact ext_refl _ | exact ext_put _ _ _
 ·obtain ⟨v, h1, _⟩ := ret2_some h
  exact vcopy_nx h1
 ·simp only [Option.bind_eq_some_iff, Option.some.injEq, Prod.mk.injEq] at h
  obtain ⟨hp1, h1, _, rfl⟩ := h
  exact vdelete_nx h1
 ·obtain ⟨v, h1, _, rfl⟩ := ret1_some h
  first | exact ext_refl _ | exact ext_put _ _ _
 ·obtain ⟨v, h1, _, rfl⟩ := ret1_some h
  first | exact ext_refl _ | exact ext_put _ _ _
 ·simp at h
def NxOk (call : CallF) : Prop := ∀ f args hp r hp', call f args hp = some (r, hp') → Ext hp hp'
theorem CallOk.nx {P : Program} {call : CallF} (h : CallOk P call) : NxOk call := fun f args hp r hp' hc => (h f args hp r hp' hc).1
theorem vop_nx {C : Cx} {call : CallF} (hcall : NxOk call) {fr : Tr V} {hp hp' : Hp} {o : Op} {r : VR} (h : vop C call fr hp o = some (r, hp')) : Ext hp hp' := by
 by_cases hpu : isPure o = true
 ·rw [vop_pure hpu] at h
  obtain ⟨v, h1, _, rfl⟩ := ret1_some h
  exact ext_refl _
 ·unfold vop at h
  split at h
  iterate 15 (· exact (hpu rfl).elim)
  ·unfold oAlloc at h
   simp only [Option.bind_eq_some_iff] at h
   obtain ⟨_, _, _, _, _, _, h⟩ := h
   obtain ⟨v, h1, _⟩ := ret2_some h
   simp only [Option.bind_eq_some_iff, Option.some.injEq, Prod.mk.injEq] at h1
   obtain ⟨⟨_, _⟩, h1, _, rfl⟩ := h1
   exact new_nx h1
  ·unfold oBox at h
   simp only [Option.bind_eq_some_iff] at h
   obtain ⟨_, _, _, _, h⟩ := h
   obtain ⟨v, h1, _⟩ := ret2_some h
   simp only [Option.bind_eq_some_iff, Option.some.injEq, Prod.mk.injEq] at h1
   obtain ⟨⟨_, _⟩, h1, _, rfl⟩ := h1
   exact new_nx h1
  ·obtain ⟨v, h1, _⟩ := ret2_some h
   exact vbuildS_nx h1
  ·unfold oLoad at h
   simp only [Option.bind_eq_some_iff] at h
   obtain ⟨_, _, _, _, h⟩ := h
   obtain ⟨v, h1, _, rfl⟩ := ret1_some h
   first | exact ext_refl _ | exact ext_put _ _ _
  ·unfold oStore at h
   simp only [Option.bind_eq_some_iff] at h
   obtain ⟨_, _, _, _, _, _, _, _, h⟩ := h
   split at h
   ·obtain ⟨h1, _⟩ := ret0_some h
    exact storeV_nx h1
   ·simp at h
  ·unfold oBin at h
   simp only [Option.bind_eq_some_iff] at h
   obtain ⟨_, _, _, _, h⟩ := h
   obtain ⟨v, h1, _, rfl⟩ := ret1_some h
   first | exact ext_refl _ | exact ext_put _ _ _
  ·unfold oConv at h
   simp only [Option.bind_eq_some_iff] at h
   obtain ⟨_, _, h⟩ := h
   obtain ⟨v, h1, _⟩ := ret2_some h
   exact vconv_nx h1
  ·unfold oMkMap at h
   simp only [Option.bind_eq_some_iff] at h
   obtain ⟨_, _, h⟩ := h
   obtain ⟨v, h1, _⟩ := ret2_some h
   simp only [Option.bind_eq_some_iff, Option.some.injEq, Prod.mk.injEq] at h1
   obtain ⟨⟨_, _⟩, h1, _, rfl⟩ := h1
   exact new_nx h1
  ·unfold oMkSl at h
   simp only [Option.bind_eq_some_iff] at h
   obtain ⟨_, _, _, _, h⟩ := h
   obtain ⟨v, h1, _⟩ := ret2_some h
   exact vmakeS_nx h1
  ·unfold oSlice at h
   simp only [Option.bind_eq_some_iff] at h
   obtain ⟨_, _, h⟩ := h
   split at h
   ·simp only [Option.some.injEq, Prod.mk.injEq] at h
    rw [← h.2]; exact ext_refl _
   ·obtain ⟨v, h1, _⟩ := ret2_some h
    unfold vslEnd at h1
    simp only [Option.bind_eq_some_iff] at h1
    obtain ⟨_, _, _, _, h1⟩ := h1
    split at h1
    ·simp only [Option.bind_eq_some_iff] at h1
     obtain ⟨_, _, _, _, h1⟩ := h1
     split at h1
     ·simp only [Option.some.injEq, Prod.mk.injEq] at h1
      rw [← h1.2]
      exact ⟨by simp only; omega, [], rfl, fun _ _ => rfl⟩
     ·simp at h1
    ·simp at h1
  ·unfold oLookup at h
   simp only [Option.bind_eq_some_iff] at h
   obtain ⟨_, _, _, _, h⟩ := h
   obtain ⟨v, h1, _, rfl⟩ := ret1_some h
   first | exact ext_refl _ | exact ext_put _ _ _
  ·unfold oMapup at h
   simp only [Option.bind_eq_some_iff] at h
   obtain ⟨_, _, _, _, _, _, h⟩ := h
   obtain ⟨h1, _⟩ := ret0_some h
   exact vmapup_nx h1
  ·unfold oMapup at h
   simp only [Option.bind_eq_some_iff] at h
   obtain ⟨_, _, _, _, _, _, h⟩ := h
   obtain ⟨h1, _⟩ := ret0_some h
   exact vmapup_nx h1
  ·unfold oEntry at h
   simp only [Option.bind_eq_some_iff] at h
   obtain ⟨_, _, _, _, h⟩ := h
   obtain ⟨v, h1, _⟩ := ret2_some h
   exact vmapentry_nx h1
  ·unfold oEntrySt at h
   simp only [Option.bind_eq_some_iff] at h
   obtain ⟨_, _, _, _, _, _, h⟩ := h
   obtain ⟨h1, _⟩ := ret0_some h
   exact ventryst_nx h1
  ·unfold oRange at h
   simp only [Option.bind_eq_some_iff] at h
   obtain ⟨_, _, _, _, h⟩ := h
   split at h
   ·obtain ⟨v, h1, _⟩ := ret2_some h
    simp only [Option.bind_eq_some_iff, Option.some.injEq, Prod.mk.injEq] at h1
    obtain ⟨⟨_, _⟩, h1, _, rfl⟩ := h1
    exact new_nx h1
   ·split at h
    ·obtain ⟨v, h1, _⟩ := ret2_some h
     simp only [Option.bind_eq_some_iff, Option.some.injEq, Prod.mk.injEq] at h1
     obtain ⟨⟨_, _⟩, h1, _, rfl⟩ := h1
     exact new_nx h1
    ·simp at h
   ·simp at h
  ·unfold oNext at h
   split at h
   ·simp at h
   ·simp only [Option.bind_eq_some_iff] at h
    obtain ⟨_, _, h⟩ := h
    obtain ⟨v, h1, _⟩ := ret2_some h
    exact vnext_nx h1
  ·unfold oIter at h
   simp only [Option.bind_eq_some_iff] at h
   obtain ⟨_, _, h⟩ := h
   obtain ⟨v, _, _, rfl⟩ := ret1_some h
   exact ext_refl _
  ·unfold oPanic at h
   simp only [Option.bind_eq_some_iff] at h
   obtain ⟨_, _, h⟩ := h
   split at h
   ·simp only [Option.some.injEq, Prod.mk.injEq] at h; rw [← h.2]; first | exact ext_refl _ | exact ext_put _ _ _
   ·simp at h
  ·unfold oCall at h
   split at h
   ·simp only [Option.bind_eq_some_iff] at h
    obtain ⟨_, _, h⟩ := h
    exact vbuiltin_nx h
   ·simp only [Option.bind_eq_some_iff] at h
    obtain ⟨_, _, _, _, h⟩ := h
    split at h
    ·exact hcall _ _ _ _ _ h
    ·simp at h
   ·simp only [Option.bind_eq_some_iff] at h
    obtain ⟨_, _, _, _, h⟩ := h
    split at h
    ·simp only [Option.bind_eq_some_iff] at h
     obtain ⟨_, _, h⟩ := h
     exact hcall _ _ _ _ _ h
    ·simp at h
  ·simp at h
/- Vr: the machine's plain regions, against the world's. By this project. -/
def DfR (E : Env) : List (Nat × List V) → List Deferred → Prop
 | [], [] => True
 | x :: r, d :: ds => (∃ cap, d.target = .fn (.func x.1) cap ∧ renL E x.2 = some (d.args.toList ++ cap.toList)) ∧ DfR E r ds
 | _, _ => False
theorem DfR.mono {E E' : Env} (h : E.le E') : ∀ {l : List (Nat × List V)} {ds : List Deferred}, DfR E l ds → DfR E' l ds
 | [], [], _ => trivial
 | [], _ :: _, k => k.elim
 | _ :: _, [], k => k.elim
 | x :: r, d :: ds, ⟨⟨cap, h1, h2⟩, h3⟩ => ⟨⟨cap, h1, renL_mono h h2⟩, DfR.mono h h3⟩
structure SvR (E : Env) (s : Sv) (a : Act) (w : World) : Prop where
 fr : FrR E s.fr a
 rep : Rep E s.hp.t w
 sz : a.tmps.size = s.n
 n : s.n ≤ trMax
 df : DfR E s.df a.defers
def exR : Ex → Env → Exit → Prop
 | .norm, _, .normal => True
 | .exit i, _, .exit j => i = j
 | .ret, _, .ret => True
 | .pan x, E, .panic ch => ∃ X, ren E x = some X ∧ ch = [{ v := X, recovered := false }]
 | _, _, _ => False
def Post (E : Env) (s : Sv) (w : World) (ex : Ex) (s' : Sv) : Exit → Act → World → Prop := fun e a' w' => ∃ E', exR ex E' e ∧ Out E s.hp w E' s'.hp w' ∧ SvR E' s' a' w'
theorem Post.trans {E E1 : Env} {s s1 s2 : Sv} {w w1 : World} {ex : Ex} {e : Exit} {a' : Act} {w' : World} (h : Out E s.hp w E1 s1.hp w1) (h1 : s.hp.nx ≤ s1.hp.nx) (h2 : s1.hp.nx ≤ s2.hp.nx) (k : Post E1 s1 w1 ex s2 e a' w') : Post E s w ex s2 e a' w' := by
 obtain ⟨E', g1, g2, g3⟩ := k
 exact ⟨E', g1, h.trans g2 h1 h2, g3⟩
def boolOf : Value → Option Bool
 | .bool b => some b
 | _ => none
theorem want_ok {E : Env} {s : Tr V} {a : Act} {ops : List Oper} {o : Oper} {b : Bool} (hF : FrR E s a) (h : wantV ops s o = some b) : Region.wanted o (yielded ops.toArray a.tmps) = b := by
 unfold wantV at h
 unfold Region.wanted
 cases hg : o.guard with
 | none => rw [hg] at h; simpa using h
 | some jt =>
  obtain ⟨j, t⟩ := jt
  rw [hg] at h
  simp only [Option.bind_eq_some_iff] at h
  obtain ⟨oj, hoj, d, hd, v, hv, h⟩ := h
  rw [getL_eq] at hoj
  obtain ⟨x, h1, h2⟩ := hF.look d v hv
  have hy : yielded ops.toArray a.tmps j = boolOf x := by
   unfold yielded
   simp only [List.getElem?_toArray, hoj, Option.bind_some, hd, h1]
   cases x <;> rfl
  simp only [hy]
  split at h
  ·simp only [ren, Option.some.injEq] at h2
   subst h2
   simp only [Option.some.injEq] at h
   subst h
   rename_i q
   cases q <;> cases t <;> rfl
  ·simp [ren, renL] at h2
   subst h2
   simp only [Option.some.injEq] at h
   subst h
   rfl
  ·simp at h
section
variable {P : Program} {C : Cx} (hC : COk P C) {call : CallF} (hcall : CallOk P call)
theorem SvR.op {E E' : Env} {s : Sv} {a : Act} {w w' : World} {hp' : Hp} {d : Option Tmp} {fr' : Tr V} {v : V} {x : Value} (h : SvR E s a w) (ho : Out E s.hp w E' hp' w') (hs : setD s.n s.fr d v = some fr') (hx : ren E' v = some x) : SvR E' ⟨fr', s.df, hp', s.n⟩ (a.put d x) w' :=
 ⟨(h.fr.mono ho.le).put h.n h.sz hs hx, ho.rep, by rw [put_size]; exact h.sz, h.n, by rw [put_df]; exact h.df.mono ho.le⟩
include hC hcall
theorem op_step {E : Env} {s : Sv} {a : Act} {w : World} {o : Oper} {r : VR} {hp' : Hp} {K : Act → World → Prop} {Q : Exit → Act → World → Prop} (h : SvR E s a w) (hv : vop C call s.fr s.hp o.op = some (r, hp')) (hf : Free E s.hp.nx hp'.nx)
  (hk : match r with
   | .v v => ∃ fr', setD s.n s.fr o.dst v = some fr' ∧ ∀ E' x w', Out E s.hp w E' hp' w' → SvR E' ⟨fr', s.df, hp', s.n⟩ (a.put o.dst x) w' → K (a.put o.dst x) w'
   | .pan v => ∀ E' x w', Out E s.hp w E' hp' w' → ren E' v = some x → SvR E' ⟨s.fr, s.df, hp', s.n⟩ a w' → Q (.panic [{ v := x, recovered := false }]) a w') : o.wp P a w K Q := by
 obtain ⟨dst, op, ty, ps, af, gd⟩ := o
 obtain ⟨q1, q2⟩ := vop_ok hC hcall h.rep h.fr hv dst ty ps af gd
 have hu := q2 hf
 unfold Oper.wp Oper.upon
 generalize (execOp a.eval ⟨dst, op, ty, ps, af, gd⟩).run P w = res at hu ⊢
 have pan : ∀ v E' x w', r = .pan v → ren E' v = some x → Out E s.hp w E' hp' w' → Q (.panic [{ v := x, recovered := false }]) a w' := fun v E' x w' hr hx ho => by
  subst hr
  exact hk E' x w' ho hx ⟨h.fr.mono ho.le, ho.rep, h.sz, h.n, h.df.mono ho.le⟩
 have val : ∀ v E' x w', r = .v v → ren E' v = some x → Out E s.hp w E' hp' w' → K (a.put dst x) w' := fun v E' x w' hr hx ho => by
  subst hr
  obtain ⟨fr', hs, hk⟩ := hk
  exact hk E' x w' ho (h.op ho hs hx)
 cases res with
 | ok n w' =>
  cases n <;> simp only [Upon] at hu ⊢ <;> try exact hu.elim
  case value x =>
   obtain ⟨v, E', hr, hx, ho⟩ := hu
   exact val v E' x w' hr hx ho
  case skip =>
   obtain ⟨E', hr, ho⟩ := hu
   exact val undV E' undef w' hr rfl ho
  case enter f args =>
   obtain ⟨rfl, hc⟩ := hu
   refine Calls.mono hc fun e w'' ⟨E', ho, hres⟩ => ?_
   cases r with
   | v v =>
    obtain ⟨x, hx, rfl⟩ := hres
    exact val v E' x w'' rfl hx ho
   | pan v =>
    obtain ⟨x, hx, rfl⟩ := hres
    exact pan v E' x w'' rfl hx ho
 | halt x w' =>
  cases x <;> simp only [Upon] at hu ⊢ <;> try exact hu.elim
  obtain ⟨v, E', hr, hx, ho⟩ := hu
  exact pan v E' _ w' hr hx ho
def exOf : Option V → Ex
 | none => .norm
 | some x => .pan x
omit hC in
theorem vlist_ext {ops : List Oper} : ∀ (r : List Oper) (s s' : Sv) (q : Option V), vlist C call ops r s = some (q, s') → Ext s.hp s'.hp
 | [], s, s', q, h => by
  simp only [vlist, Option.some.injEq, Prod.mk.injEq] at h
  rw [← h.2]; exact ext_refl _
 | o :: r, s, s', q, h => by
  simp only [vlist, Option.bind_eq_some_iff] at h
  obtain ⟨b, hb, h⟩ := h
  have gen : ∀ op, (vop C call s.fr s.hp op).bind (fun q => match q.1 with
    | .v x => (setD s.n s.fr o.dst x).bind fun fr => vlist C call ops r ⟨fr, s.df, q.2, s.n⟩
    | .pan x => some (some x, ⟨s.fr, s.df, q.2, s.n⟩)) = some (q, s') → Ext s.hp s'.hp := fun op h => by
   simp only [Option.bind_eq_some_iff] at h
   obtain ⟨⟨rr, hp'⟩, hv, h⟩ := h
   have h1 : Ext s.hp hp' := vop_nx hcall.nx hv
   cases rr with
   | v x =>
    simp only [Option.bind_eq_some_iff] at h
    obtain ⟨fr, hfr, h⟩ := h
    exact h1.trans (vlist_ext r _ _ _ h)
   | pan x =>
    simp only [Option.some.injEq, Prod.mk.injEq] at h
    rw [← h.2]
    exact h1
  split at h
  ·simp only [Option.bind_eq_some_iff] at h
   obtain ⟨fr, hfr, h⟩ := h
   have := vlist_ext r _ _ _ h
   exact this
  ·split at h
   ·simp only [Option.bind_eq_some_iff] at h
    obtain ⟨d, hd, fr, hfr, h⟩ := h
    have := vlist_ext r _ _ _ h
    exact this
   ·exact gen _ h
theorem vlist_nx {ops : List Oper} (r : List Oper) (s s' : Sv) (q : Option V) (h : vlist C call ops r s = some (q, s')) : s.hp.nx ≤ s'.hp.nx := (vlist_ext hcall r s s' q h).nx
theorem vlist_ok {ops : List Oper} : ∀ (r : List Oper) (s s' : Sv) (q : Option V), vlist C call ops r s = some (q, s') → ∀ E a w, SvR E s a w → Free E s.hp.nx s'.hp.nx → ∀ Q, (∀ e a' w', Post E s w (exOf q) s' e a' w' → Q e a' w') → wpList P ops.toArray Q r a w
 | [], s, s', q, h, E, a, w, hS, hf, Q, hQ => by
  simp only [vlist, Option.some.injEq, Prod.mk.injEq] at h
  obtain ⟨rfl, rfl⟩ := h
  exact hQ _ _ _ ⟨E, trivial, out_refl hS.rep, hS⟩
 | o :: r, s, s', q, h, E, a, w, hS, hf, Q, hQ => by
  have hnx := vlist_nx hC hcall _ _ _ _ h
  simp only [vlist, Option.bind_eq_some_iff] at h
  obtain ⟨b, hb, h⟩ := h
  have hw := want_ok hS.fr hb
  refine wpList_step fun K hK => ?_
  rw [hw]
  have gen : (vop C call s.fr s.hp o.op).bind (fun q => match q.1 with
    | .v x => (setD s.n s.fr o.dst x).bind fun fr => vlist C call ops r ⟨fr, s.df, q.2, s.n⟩
    | .pan x => some (some x, ⟨s.fr, s.df, q.2, s.n⟩)) = some (q, s') → o.wp P a w K Q := fun h => by
   simp only [Option.bind_eq_some_iff] at h
   obtain ⟨⟨rr, hp'⟩, hv, h⟩ := h
   have h1 : s.hp.nx ≤ hp'.nx := (vop_nx hcall.nx hv).nx
   cases rr with
   | v x =>
    simp only [Option.bind_eq_some_iff] at h
    obtain ⟨fr, hfr, h⟩ := h
    have h2 := vlist_nx hC hcall r _ _ _ h
    simp only at h2
    exact op_step hC hcall hS hv (hf.mono (Nat.le_refl _) h2) ⟨fr, hfr, fun E' y w' ho hS' => hK _ _ (vlist_ok r _ _ _ h E' _ w' hS' (ho.free (hf.mono h1 (Nat.le_refl _)) (Nat.le_refl _)) Q fun e a' w'' hp => hQ _ _ _ (Post.trans (s1 := ⟨fr, s.df, hp', s.n⟩) ho h1 h2 hp))⟩
   | pan x =>
    simp only [Option.some.injEq, Prod.mk.injEq] at h
    obtain ⟨rfl, rfl⟩ := h
    exact op_step hC hcall hS hv hf fun E' y w' ho hx hS' => hQ _ _ _ ⟨E', ⟨y, hx, rfl⟩, ho, hS'⟩
  split at h
  ·simp only [Option.bind_eq_some_iff] at h
   obtain ⟨fr, hfr, h⟩ := h
   simp only [Bool.false_eq_true, if_false]
   exact hK _ _ (vlist_ok r _ _ _ h E _ w (hS.op (out_refl hS.rep) hfr (v := undV) (x := undef) rfl) hf Q hQ)
  ·simp only [if_true]
   split at h
   ·rename_i c hc
    simp only [Option.bind_eq_some_iff] at h
    obtain ⟨d, hd, fr, hfr, h⟩ := h
    unfold vdefer at hd
    split at hd
    ·rename_i f hcf
     simp only [Option.bind_eq_some_iff] at hd
     obtain ⟨fv, hfv, args, hargs, hd⟩ := hd
     split at hd
     ·rename_i ff first cap
      simp only [Option.some.injEq] at hd
      subst hd
      have e1 := hS.fr.ev hfv
      simp only [ren, Option.bind_eq_some_iff, Option.map_eq_some_iff] at e1
      obtain ⟨fl, hfl, cl, hcl, e1⟩ := e1
      have hA := hS.fr.evs hargs
      have hrun : (execOp a.eval o).run P w = .ok (.defer { target := .fn (.func ff) cl.toArray, args := fl.toArray ++ c.args.map a.eval }) w := by
       simp only [execOp, hc, Sem.run_bind, resolve, hcf, ← e1, Deferred.ofValue, Sem.run_pure, Result.andThen_ok]
      unfold Oper.wp
      rw [hrun]
      refine hK _ _ (vlist_ok r _ _ _ h E _ w ?_ hf Q hQ)
      refine ⟨(FrR.put (a := { a with defers := _ :: a.defers }) ⟨hS.fr.look, hS.fr.gl⟩ hS.n hS.sz hfr (x := undef) (v := undV) rfl), hS.rep, by rw [put_size]; exact hS.sz, hS.n, ?_⟩
      rw [put_df]
      refine ⟨⟨cl.toArray, rfl, ?_⟩, hS.df⟩
      have := renL_app hfl (renL_app hA hcl)
      rw [appF_eq, appF_eq]
      simpa using this
     ·simp at hd
    ·simp at hd
   ·exact gen h
end
/- Vd: the machine's regions that draw their order, against the world's. By this project. -/
theorem bitOf_tb (m i : Nat) : bitOf m i = m.testBit i := by
 unfold bitOf
 rw [Bool.eq_iff_iff, Nat.beq_eq]
 simp only [Nat.testBit_eq_decide_div_mod_eq, decide_eq_true_eq, Nat.shiftRight_eq_div_pow]
 exact Iff.rfl
theorem maskLe_bit {a b : Nat} (h : maskLe a b = true) (i : Nat) (hi : bitOf a i = true) : bitOf b i = true := by
 unfold maskLe at h
 have h := Nat.eq_of_beq_eq_true h
 rw [bitOf_tb] at hi ⊢
 rw [← h, Nat.testBit_or, hi, Bool.true_or]
theorem bit_or (a b i : Nat) : bitOf (a ||| b) i = (bitOf a i || bitOf b i) := by rw [bitOf_tb, bitOf_tb, bitOf_tb, Nat.testBit_or]
theorem bit_one (k i : Nat) : bitOf (1 <<< k) i = decide (k = i) := by rw [bitOf_tb, Nat.one_shiftLeft, Nat.testBit_two_pow]
theorem bit_zero (i : Nat) : bitOf 0 i = false := by rw [bitOf_tb]; simp
theorem preMask_bit (pres : Tr Nat) : ∀ (l : List Edge) (m j : Nat), bitOf (preMask pres l m) j = true ↔ (bitOf m j = true ∨ ∃ e ∈ l, Region.binds .any e = true ∧ (j = e.on ∨ bitOf (maskOf pres e.on) j = true))
 | [], m, j => by simp [preMask]
 | e :: r, m, j => by
  simp only [preMask]
  split
  ·rename_i hb
   rw [preMask_bit pres r]
   rw [bit_or, bit_or, bit_one]
   simp only [Bool.or_eq_true, decide_eq_true_eq, List.mem_cons, exists_eq_or_imp, hb, true_and]
   constructor
   ·rintro (((h | h) | h) | h)
    ·exact .inl h
    ·exact .inr (.inl (.inl h.symm))
    ·exact .inr (.inl (.inr h))
    ·exact .inr (.inr h)
   ·rintro (h | ((h | h) | h))
    ·exact .inl (.inl (.inl h))
    ·exact .inl (.inl (.inr h.symm))
    ·exact .inl (.inr h)
    ·exact .inr h
  ·rename_i hb
   rw [preMask_bit pres r]
   simp only [List.mem_cons, exists_eq_or_imp, hb, Bool.false_eq_true, false_and, false_or]
theorem preAll_spec : ∀ (r : List Oper) (i : Nat) (acc : Tr Nat), i + r.length ≤ trMax → (∀ j, j < i → (preAll r i acc).get j = acc.get j) ∧
  ∀ k o, r[k]? = some o → ∃ acc' : Tr Nat, (preAll r i acc).get (i + k) = some (preMask acc' o.after.toList 0) ∧ ∀ j, j < i + k → acc'.get j = (preAll r i acc).get j
 | [], i, acc, _ => ⟨fun _ _ => rfl, fun k o h => by simp at h⟩
 | o :: r, i, acc, hl => by
  simp only [List.length_cons] at hl
  obtain ⟨h1, h2⟩ := preAll_spec r (i + 1) (acc.set i (some (preMask acc o.after.toList 0))) (by omega)
  have hget : ∀ j, (acc.set i (some (preMask acc o.after.toList 0))).get j = if j = i then some (preMask acc o.after.toList 0) else acc.get j := fun j => Tr.get_set _ _ _
  have ha : ∀ j, j < i → (preAll (o :: r) i acc).get j = acc.get j := fun j hj => by
   simp only [preAll]
   rw [h1 j (by omega), hget, if_neg (by omega)]
  refine ⟨ha, fun k o' ho => ?_⟩
  cases k with
  | zero =>
   simp only [List.getElem?_cons_zero, Option.some.injEq] at ho
   subst ho
   refine ⟨acc, ?_, fun j hj => (ha j (by omega)).symm⟩
   simp only [preAll, Nat.add_zero]
   rw [h1 i (by omega), hget, if_pos rfl]
  | succ k =>
   obtain ⟨acc', g1, g2⟩ := h2 k o' (by simpa using ho)
   refine ⟨acc', ?_, fun j hj => ?_⟩
   ·simp only [preAll]; rw [show i + (k + 1) = i + 1 + k by omega]; exact g1
   ·simp only [preAll]; exact g2 j (by omega)
theorem allL_iff {α : Type} {f : α → Bool} : ∀ {l : List α}, allL f l = true ↔ ∀ x ∈ l, f x = true
 | [] => by simp [allL]
 | x :: r => by
  simp only [allL]
  split
  ·rename_i h; rw [allL_iff]; simp [h]
  ·rename_i h; simp [h]
theorem anyL_iff {α : Type} {f : α → Bool} : ∀ {l : List α}, anyL f l = true ↔ ∃ x ∈ l, f x = true
 | [] => by simp [anyL]
 | x :: r => by
  simp only [anyL]
  split
  ·rename_i h; simp [h]
  ·rename_i h; rw [anyL_iff]; simp [h]
theorem edgesOk_spec {pres : Tr Nat} : ∀ {r : List Oper} {i : Nat}, edgesOk pres r i = true → ∀ k o, r[k]? = some o → edgeB pres o (i + k) = true ∧ guardB pres o (i + k) = true ∧ plainB o = true ∧ i + k < 1000000
 | [], i, _, k, o, ho => by simp at ho
 | q :: r, i, h, k, o, ho => by
  simp only [edgesOk] at h
  split at h
  ·rename_i hb
   simp only [Bool.and_eq_true] at hb
   obtain ⟨⟨⟨b1, b2⟩, b3⟩, b4⟩ := hb
   cases k with
   | zero =>
    simp only [List.getElem?_cons_zero, Option.some.injEq] at ho
    subst ho
    exact ⟨b1, b2, b3, by simpa [Nat.blt_eq] using b4⟩
   | succ k =>
    have := edgesOk_spec h k o (by simpa using ho)
    rwa [show i + 1 + k = i + (k + 1) by omega] at this
  ·simp at h
theorem apartAll_spec {ops : List Oper} {pres : Tr Nat} : ∀ {r : List Oper} {j : Nat} {done : List (Nat × Oper)}, apartAll ops pres r j done = true → ∀ k y, r[k]? = some y → (∀ x ∈ done, apartB ops pres x.1 x.2 (j + k) y = true) ∧
  ∀ k' x, k' < k → r[k']? = some x → apartB ops pres (j + k') x (j + k) y = true
 | [], j, done, _, k, y, hy => by simp at hy
 | q :: r, j, done, h, k, y, hy => by
  simp only [apartAll] at h
  split at h
  ·rename_i hb
   rw [allL_iff] at hb
   cases k with
   | zero =>
    simp only [List.getElem?_cons_zero, Option.some.injEq] at hy
    subst hy
    exact ⟨hb, fun k' x hk => by omega⟩
   | succ k =>
    obtain ⟨h1, h2⟩ := apartAll_spec h k y (by simpa using hy)
    rw [show j + 1 + k = j + (k + 1) by omega] at h1
    refine ⟨fun x hx => h1 x (by simp [hx]), fun k' x hk hx => ?_⟩
    cases k' with
    | zero =>
     simp only [List.getElem?_cons_zero, Option.some.injEq] at hx
     subst hx
     exact h1 (j, q) (by simp)
    | succ k' =>
     have := h2 k' x (by omega) (by simpa using hx)
     rwa [show j + 1 + k' = j + (k' + 1) by omega, show j + 1 + k = j + (k + 1) by omega] at this
  ·simp at h
theorem sameDst_iff {a b : Option Tmp} : sameDst a b = true ↔ ∃ d, a = some d ∧ b = some d := by
 cases a <;> cases b <;> simp [sameDst]
 exact ⟨fun h => h.symm, fun h => h.symm⟩
theorem sameTmp_iff {a : Option Tmp} {x : Operand} : sameTmp a x = true ↔ ∃ d, a = some d ∧ x = .tmp d := by
 cases a <;> cases x <;> simp [sameTmp]
 exact ⟨fun h => h.symm, fun h => h.symm⟩
theorem evV_congr {fr fr' : Tr V} {x : Operand} (h : ∀ t, x = .tmp t → fr.get t = fr'.get t) : evV fr x = evV fr' x := by
 cases x <;> simp only [evV]
 exact h _ rfl
theorem mapO_congr {fr fr' : Tr V} : ∀ {l : List Operand}, (∀ x ∈ l, evV fr x = evV fr' x) → mapO (evV fr) l = mapO (evV fr') l
 | [], _ => rfl
 | x :: r, h => by
  rw [mapO_cons, mapO_cons]
  rw [h x (by simp), mapO_congr (fun y hy => h y (by simp [hy]))]
theorem fillV_congr {fr fr' : Tr V} {place : Nat → Option (Nat × Nat)} : ∀ {l : List (Nat × Operand)} {cs : List V}, (∀ x ∈ l, evV fr x.2 = evV fr' x.2) → fillV fr place cs l = fillV fr' place cs l
 | [], _, _ => rfl
 | (i, x) :: r, cs, h => by
  simp only [fillV]
  rw [h (i, x) (by simp)]
  congr 1
  funext v
  congr 1
  funext vc
  congr 1
  funext p
  split
  ·exact fillV_congr (fun y hy => h y (by simp [hy]))
  ·rfl
theorem boundV_congr {fr fr' : Tr V} {x : Option Operand} {d : Nat} (h : ∀ y, x = some y → evV fr y = evV fr' y) : boundV fr x d = boundV fr' x d := by
 cases x with
 | none => rfl
 | some y => simp only [boundV, h y rfl]
theorem vop_congr {C : Cx} {call : CallF} {fr fr' : Tr V} {hp : Hp} {o : Op} (h : ∀ x ∈ o.operands.toList, evV fr x = evV fr' x) : vop C call fr hp o = vop C call fr' hp o ∧ vpure C fr o = vpure C fr' o := by
 have prs : ∀ ps : Array (Nat × Operand), (∀ x ∈ (ps.map (·.2)).toList, evV fr x = evV fr' x) → ∀ x ∈ ps.toList, evV fr x.2 = evV fr' x.2 := fun ps hp x hx => hp x.2 (by simp; exact ⟨x.1, by simpa using hx⟩)
 have key : vpure C fr o = vpure C fr' o := by
  cases o <;> simp only [vpure] <;> simp only [Op.operands] at h
  case move x => exact h x (by simp)
  case assign x => exact h x (by simp)
  case pick c a b => unfold pPick; rw [h c (by simp), h a (by simp), h b (by simp)]
  case build t ps =>
   unfold vbuild
   have := prs ps (by simpa using h)
   simp only [fun place cs => fillV_congr (fr := fr) (fr' := fr') (place := place) (cs := cs) this]
  case nilCheck x => unfold pNil; rw [h x (by simp)]
  case unOp op t x => unfold pUn; rw [h x (by simp)]
  case sliceToArrayPointer t x => unfold pArr; rw [h x (by simp)]
  case makeInterface t x => unfold pMkIf; rw [h x (by simp)]
  case makeFunc fn first cap =>
   unfold pMkFn
   cases fn <;> try rfl
   simp only
   rw [mapO_congr (l := first.toList) (fun x hx => h x (by simp at hx ⊢; exact .inl hx)), mapO_congr (l := cap.toList) (fun x hx => h x (by simp at hx ⊢; exact .inr hx))]
  case fieldAddr t x f => unfold pFa; rw [h x (by simp)]
  case field t x f => unfold pFld; rw [h x (by simp)]
  case indexAddr t x i => unfold pIa; rw [h x (by simp), h i (by simp)]
  case index t x i => unfold pIx; rw [h x (by simp), h i (by simp)]
  case extract x i => unfold pExt; rw [h x (by simp)]
  case typeAssert x xt t ok => unfold pTa; rw [h x (by simp)]
 refine ⟨?_, key⟩
 by_cases hpu : isPure o = true
 ·rw [vop_pure hpu, vop_pure hpu, key]
 ·unfold vop
  cases o <;> simp only <;> simp only [Op.operands] at h
  case move => exact (hpu rfl).elim
  case assign => exact (hpu rfl).elim
  case pick => exact (hpu rfl).elim
  case build => exact (hpu rfl).elim
  case nilCheck => exact (hpu rfl).elim
  case unOp => exact (hpu rfl).elim
  case sliceToArrayPointer => exact (hpu rfl).elim
  case makeInterface => exact (hpu rfl).elim
  case makeFunc => exact (hpu rfl).elim
  case fieldAddr => exact (hpu rfl).elim
  case field => exact (hpu rfl).elim
  case indexAddr => exact (hpu rfl).elim
  case index => exact (hpu rfl).elim
  case extract => exact (hpu rfl).elim
  case typeAssert => exact (hpu rfl).elim
  case box t x => unfold oBox; rw [h x (by simp)]
  case buildSlice t len ps =>
   unfold vbuildS
   have := prs ps (by simpa using h)
   simp only [fun place cs => fillV_congr (fr := fr) (fr' := fr') (place := place) (cs := cs) this]
  case load t x => unfold oLoad; rw [h x (by simp)]
  case store t x y => unfold oStore; rw [h x (by simp), h y (by simp)]
  case binOp op t x y t' => unfold oBin; rw [h x (by simp), h y (by simp)]
  case convert s t x => unfold oConv; rw [h x (by simp)]
  case makeMap t r =>
   unfold oMkMap
   cases r with
   | none => rfl
   | some x => simp only; rw [h x (by simp)]
  case makeSlice t l c => unfold oMkSl; rw [h l (by simp), h c (by simp)]
  case slice t x lo hi mx =>
   unfold oSlice
   rw [h x (by simp)]
   congr 1
   funext v
   unfold vslEnd vslice
   have e1 : ∀ d, boundV fr lo d = boundV fr' lo d := fun d => boundV_congr fun y hy => h y (by subst hy; simp)
   have e2 : ∀ d, boundV fr hi d = boundV fr' hi d := fun d => boundV_congr fun y hy => h y (by subst hy; simp)
   have e3 : ∀ m d, mx = some m → boundV fr (some m) d = boundV fr' (some m) d := fun m d hm => boundV_congr fun y hy => h y (by subst hm; simp at hy; subst hy; simp)
   simp only [e1, e2]
   cases mx with
   | none => rfl
   | some m => simp only [e3 m _ rfl]
  case lookup t x k ok => unfold oLookup; rw [h x (by simp), h k (by simp)]
  case mapUpdate t m k x => unfold oMapup; rw [h m (by simp), h k (by simp), h x (by simp)]
  case insert t m k x => unfold oMapup; rw [h m (by simp), h k (by simp), h x (by simp)]
  case mapEntry t m k => unfold oEntry; rw [h m (by simp), h k (by simp)]
  case entryStore t m s x => unfold oEntrySt; rw [h m (by simp), h s (by simp), h x (by simp)]
  case range t x => unfold oRange; rw [h x (by simp)]
  case next it b => unfold oNext; rw [h it (by simp)]
  case entry it => unfold oIter; rw [h it (by simp)]
  case panic x => unfold oPanic; rw [h x (by simp)]
  case call c =>
   unfold oCall
   have hargs : mapO (evV fr) c.args.toList = mapO (evV fr') c.args.toList := mapO_congr fun x hx => h x (by simp only [Call.operands, Array.toList_append, List.mem_append]; exact .inr hx)
   cases hc : c.callee with
   | builtin b => simp only [hargs]
   | value f => simp only [hargs]; rw [h f (by simp [Call.operands, hc])]
   | invoke r m => simp only [hargs]; rw [h r (by simp [Call.operands, hc])]
/- Ve: the machine's regions that draw: whatever the order, the same comes out. By this project. -/
theorem playLog_get : ∀ (l : List (Nat × Option VO)) (t : Tr VO) (h : Nat), (∀ x ∈ l, roB x.1 = false) → (playLog t l).get h = match l.lookup h with | some o => o | none => t.get h
 | [], t, h, _ => rfl
 | (x, o) :: r, t, h, hs => by
  simp only [playLog]
  rw [Tr.get_set _ _ _]
  by_cases e : h = x
  ·subst e
   rw [if_pos rfl, lookup_cons_eq']
  ·rw [if_neg e, lookup_cons_ne' e]
   exact playLog_get r t h fun y hy => hs y (by simp [hy])
where
 lookup_cons_eq' {h : Nat} {o : Option VO} {r : List (Nat × Option VO)} : List.lookup h ((h, o) :: r) = some o := by simp [List.lookup]
 lookup_cons_ne' {h x : Nat} {o : Option VO} {r : List (Nat × Option VO)} (e : h ≠ x) : List.lookup h ((x, o) :: r) = r.lookup h := by
  have : (h == x) = false := by simpa using e
  simp [List.lookup, this]
theorem logSince_lookup (hp : Hp) : ∀ (l : List Nat) (h : Nat), (logSince hp l).lookup h = if h ∈ l then some (hp.get h) else none
 | [], h => by simp [logSince]
 | x :: r, h => by
  simp only [logSince, List.lookup]
  by_cases e : h = x
  ·subst e; simp
  ·have : (h == x) = false := by simpa using e
   rw [this]
   simp only [logSince_lookup hp r h, List.mem_cons, e, false_or]
theorem logOk_spec {nx : Nat} : ∀ {l : List (Nat × Option VO)}, logOk nx l = true → ∀ x ∈ l, x.1 < nx ∧ roB x.1 = false
 | [], _, x, hx => by simp at hx
 | (y, o) :: r, h, x, hx => by
  simp only [logOk] at h
  split at h
  ·rename_i hb
   simp only [Bool.and_eq_true, Nat.blt_eq, Bool.not_eq_true'] at hb
   rcases List.mem_cons.1 hx with rfl | hx
   ·exact hb
   ·exact logOk_spec h x hx
  ·simp at h
theorem fresh_spec {nx : Nat} : ∀ {l : List (Nat × Option VO)}, freshLog nx l = true → ∀ x ∈ l, nx ≤ x.1
 | [], _, x, hx => by simp at hx
 | (y, o) :: r, h, x, hx => by
  simp only [freshLog] at h
  split at h
  ·rename_i hb
   rcases List.mem_cons.1 hx with rfl | hx
   ·exact Nat.le_of_ble_eq_true hb
   ·exact fresh_spec h x hx
  ·simp at h
theorem dropLog_get : ∀ (l : List (Nat × Option VO)) (t : Tr VO) (h : Nat) (o : VO), (dropLog t l).get h = some o → t.get h = some o ∧ l.lookup h = none
 | [], t, h, o, ho => ⟨ho, rfl⟩
 | (x, y) :: r, t, h, o, ho => by
  simp only [dropLog] at ho
  rw [Tr.get_set] at ho
  split at ho
  ·simp at ho
  ·rename_i hx
   obtain ⟨h1, h2⟩ := dropLog_get r t h o ho
   refine ⟨h1, ?_⟩
   have : (h == x) = false := by simpa using hx
   simp [List.lookup, this, h2]
theorem dropDn_get {t : Tr VO} {m : Nat} : ∀ (dns : List Dn) (h : Nat) (o : VO), (dropDn t m dns).get h = some o → t.get h = some o ∧ ∀ d ∈ dns, bitOf m d.ix = false → d.log.lookup h = none
 | [], h, o, ho => ⟨ho, fun d hd => by simp at hd⟩
 | d :: r, h, o, ho => by
  simp only [dropDn] at ho
  split at ho
  ·rename_i hb
   obtain ⟨h1, h2⟩ := dropDn_get r h o ho
   refine ⟨h1, fun d' hd hd' => ?_⟩
   rcases List.mem_cons.1 hd with rfl | hd
   ·rw [hb] at hd'; simp at hd'
   ·exact h2 d' hd hd'
  ·obtain ⟨h3, h4⟩ := dropLog_get _ _ _ _ ho
   obtain ⟨h1, h2⟩ := dropDn_get r h o h3
   refine ⟨h1, fun d' hd hd' => ?_⟩
   rcases List.mem_cons.1 hd with rfl | hd
   ·exact h4
   ·exact h2 d' hd hd'
theorem inLog_spec {h : Nat} : ∀ {l : List (Nat × Option VO)}, inLog h l = false → l.lookup h = none
 | [], _ => rfl
 | (x, y) :: r, hl => by
  simp only [inLog] at hl
  split at hl
  ·simp at hl
  ·rename_i hx
   have : (h == x) = false := by
    rw [Bool.eq_false_iff]
    intro e
    have : h = x := by simpa using e
    rw [this] at hx
    simp at hx
   simp only [List.lookup, this]
   exact inLog_spec hl
theorem untouched_spec {m h : Nat} : ∀ {dns : List Dn}, untouched m h dns = true → ∀ d ∈ dns, bitOf m d.ix = false → d.log.lookup h = none
 | [], _, d, hd, _ => by simp at hd
 | e :: r, hu, d, hd, hb => by
  simp only [untouched] at hu
  split at hu
  ·rename_i hx
   rcases List.mem_cons.1 hd with rfl | hd
   ·rw [hb] at hx
    simp only [Bool.false_or, Bool.not_eq_true'] at hx
    exact inLog_spec hx
   ·exact untouched_spec hu d hd hb
  ·simp at hu
theorem subHp_get {t : Tr VO} : ∀ {R : List Nat} {h : Nat} {o : VO}, (subHp t R).get h = some o → h ∈ R ∧ t.get h = some o
 | [], h, o, hh => by simp only [subHp] at hh; rw [Tr.get_eq, tr_get_lf] at hh; simp at hh
 | x :: r, h, o, hh => by
  simp only [subHp] at hh
  split at hh
  ·rename_i o' ho
   rw [Tr.get_set] at hh
   split at hh
   ·rename_i e
    subst e
    exact ⟨by simp, by rw [ho]; exact hh⟩
   ·obtain ⟨h1, h2⟩ := subHp_get hh
    exact ⟨List.mem_cons_of_mem _ h1, h2⟩
  ·obtain ⟨h1, h2⟩ := subHp_get hh
   exact ⟨List.mem_cons_of_mem _ h1, h2⟩
theorem mem_of_lookup {l : List (Nat × Option VO)} {h : Nat} {o : Option VO} (hl : l.lookup h = some o) : (h, o) ∈ l := by
 induction l with
 | nil => simp at hl
 | cons x r ih =>
  obtain ⟨y, q⟩ := x
  simp only [List.lookup] at hl
  split at hl
  ·rename_i e
   have : h = y := by simpa using e
   subst this
   simp only [Option.some.injEq] at hl
   subst hl
   simp
  ·exact List.mem_cons_of_mem _ (ih hl)
noncomputable def TDm (t0 : Tr VO) (lg : Nat → List (Nat × Option VO)) (D : Nat → Bool) : Nat → Tr VO
 | 0 => t0
 | k + 1 => if D k = true then playLog (TDm t0 lg D k) (lg k) else TDm t0 lg D k
section
variable {t0 : Tr VO} {lg : Nat → List (Nat × Option VO)} (hs : ∀ k, ∀ x ∈ lg k, roB x.1 = false)
include hs
theorem TDm_succ (D : Nat → Bool) (k h : Nat) : (TDm t0 lg D (k + 1)).get h = if D k = true then (match (lg k).lookup h with | some o => o | none => (TDm t0 lg D k).get h) else (TDm t0 lg D k).get h := by
 simp only [TDm]
 split
 ·exact playLog_get _ _ _ (hs k)
 ·rfl
theorem TDm_congr {D D' : Nat → Bool} {h : Nat} : ∀ (n : Nat), (∀ j, j < n → (lg j).lookup h ≠ none → D j = D' j) → (TDm t0 lg D n).get h = (TDm t0 lg D' n).get h
 | 0, _ => rfl
 | n + 1, hd => by
  have ih := TDm_congr n fun j hj => hd j (by omega)
  rw [TDm_succ hs, TDm_succ hs, ih]
  cases hl : (lg n).lookup h with
  | none => simp
  | some o =>
   have := hd n (by omega) (by rw [hl]; simp)
   rw [this]
theorem TDm_none {D : Nat → Bool} {h : Nat} (n : Nat) (hd : ∀ j, j < n → D j = true → (lg j).lookup h = none) : (TDm t0 lg D n).get h = t0.get h := by
 induction n with
 | zero => rfl
 | succ n ih =>
  rw [TDm_succ hs, ih fun j hj => hd j (by omega)]
  split
  ·rename_i hD
   rw [hd n (by omega) hD]
  ·rfl
theorem TDm_last {D : Nat → Bool} {h i : Nat} {o : Option VO} : ∀ (n : Nat), i < n → D i = true → (lg i).lookup h = some o → (∀ j, i < j → j < n → D j = true → (lg j).lookup h = none) → (TDm t0 lg D n).get h = o
 | 0, hi, _, _, _ => by omega
 | n + 1, hi, hD, hl, hd => by
  rw [TDm_succ hs]
  by_cases e : i = n
  ·subst e
   rw [if_pos hD, hl]
  ·have ih := TDm_last n (by omega) hD hl fun j h1 h2 => hd j h1 (by omega)
   split
   ·rename_i hDn
    rw [hd n (by omega) (by omega) hDn]
    exact ih
   ·exact ih
theorem TDm_out {D : Nat → Bool} {m : Nat} (n : Nat) (hmn : m ≤ n) (hd : ∀ j, m ≤ j → D j = false) : TDm t0 lg D n = TDm t0 lg D m := by
  induction n with
  | zero => have : m = 0 := by omega
            subst this; rfl
  | succ n ih =>
    by_cases e : m = n + 1
    · subst e; rfl
    · simp only [TDm]
      rw [hd n (by omega), if_neg (by simp)]
      exact ih (by omega)
end
noncomputable def FT (f0 : Tr V) (ds : Nat → Option Tmp) (vs : Nat → V) (D : Nat → Bool) : Nat → Tr V
 | 0 => f0
 | k + 1 => if D k = true then (match ds k with | some d => (FT f0 ds vs D k).set d (some (vs k)) | none => FT f0 ds vs D k) else FT f0 ds vs D k
section
variable {f0 : Tr V} {ds : Nat → Option Tmp} {vs : Nat → V} (hs : ∀ k d, ds k = some d → d < trMax)
include hs
theorem FT_succ (D : Nat → Bool) (k t : Nat) : (FT f0 ds vs D (k + 1)).get t = if D k = true ∧ ds k = some t then some (vs k) else (FT f0 ds vs D k).get t := by
 simp only [FT]
 by_cases hD : D k = true
 ·rw [if_pos hD]
  cases hd : ds k with
  | none => simp
  | some d =>
   simp only
   rw [Tr.get_set _ _ _]
   by_cases e : t = d
   ·subst e; rw [if_pos rfl, if_pos ⟨hD, rfl⟩]
   ·rw [if_neg e, if_neg (fun h => e (Option.some.inj h.2).symm)]
 ·rw [if_neg hD, if_neg (fun h => hD h.1)]
theorem FT_congr {D D' : Nat → Bool} {t : Nat} : ∀ (n : Nat), (∀ j, j < n → ds j = some t → D j = D' j) → (FT f0 ds vs D n).get t = (FT f0 ds vs D' n).get t
 | 0, _ => rfl
 | n + 1, hd => by
  have ih := FT_congr n fun j hj => hd j (by omega)
  rw [FT_succ hs, FT_succ hs, ih]
  by_cases hl : ds n = some t
  ·rw [hd n (by omega) hl]
  ·rw [if_neg (fun h => hl h.2), if_neg (fun h => hl h.2)]
theorem FT_last {D : Nat → Bool} {t i : Nat} : ∀ (n : Nat), i < n → D i = true → ds i = some t → (∀ j, i < j → j < n → D j = true → ds j ≠ some t) → (FT f0 ds vs D n).get t = some (vs i)
 | 0, hi, _, _, _ => by omega
 | n + 1, hi, hD, hl, hd => by
  rw [FT_succ hs]
  by_cases e : i = n
  ·subst e; rw [if_pos ⟨hD, hl⟩]
  ·rw [if_neg (fun h => hd n (by omega) (by omega) h.1 h.2)]
   exact FT_last n (by omega) hD hl fun j h1 h2 => hd j h1 (by omega)
theorem FT_out {D : Nat → Bool} {m : Nat} (n : Nat) (hmn : m ≤ n) (hd : ∀ j, m ≤ j → D j = false) (t : Nat) : (FT f0 ds vs D n).get t = (FT f0 ds vs D m).get t := by
  induction n with
  | zero => have : m = 0 := by omega
            subst this; rfl
  | succ n ih =>
    by_cases e : m = n + 1
    · subst e; rfl
    · rw [FT_succ hs, if_neg (fun h => by rw [hd n (by omega)] at h; simp at h)]
      exact ih (by omega)
end
section
variable {P : Program} {C : Cx} {call : CallF} {n : Nat} {ops : List Oper} {pres : Tr Nat} {t0 : Tr VO}
theorem vdraw_states : ∀ {r : List Oper} {i : Nat} {d d' : DSt}, vdraw C call n ops pres t0 r i d = some d' → ∃ S : Nat → DSt, S 0 = d ∧ S r.length = d' ∧ ∀ k o, r[k]? = some o → vd1 C call n ops pres t0 o (i + k) (S k) = some (S (k + 1))
 | [], i, d, d', h => by
  simp only [vdraw, Option.some.injEq] at h
  exact ⟨fun _ => d, rfl, h, fun k o ho => by simp at ho⟩
 | q :: r, i, d, d', h => by
  simp only [vdraw, Option.bind_eq_some_iff] at h
  obtain ⟨d1, h1, h⟩ := h
  obtain ⟨S, s1, s2, s3⟩ := vdraw_states h
  refine ⟨fun k => match k with | 0 => d | k + 1 => S k, rfl, s2, fun k o ho => ?_⟩
  cases k with
  | zero =>
   simp only [List.getElem?_cons_zero, Option.some.injEq] at ho
   subst ho
   simp only [s1]
   exact h1
  | succ k =>
   have := s3 k o (by simpa using ho)
   rw [show i + 1 + k = i + (k + 1) by omega] at this
   exact this
theorem rdsOk_spec {m : Nat} {log : List (Nat × Option VO)} : ∀ {r : List (Nat × List Nat)}, rdsOk m log r = true → ∀ p ∈ r, bitOf m p.1 = false → ∀ h ∈ p.2, log.lookup h = none
 | [], _, p, hp, _ => by simp at hp
 | q :: r, hu, p, hp, hb => by
  simp only [rdsOk] at hu
  split at hu
  ·rename_i hx
   rcases List.mem_cons.1 hp with rfl | hp
   ·rw [hb] at hx
    simp only [Bool.false_or] at hx
    intro h hh
    have := allL_iff.1 hx h hh
    simp only [Bool.not_eq_true'] at this
    exact inLog_spec this
   ·exact rdsOk_spec hu p hp hb
  ·simp at hu
def Fact (C : Cx) (call : CallF) (n : Nat) (ops : List Oper) (pres : Tr Nat) (t0 : Tr VO) (o : Oper) (k : Nat) (d d' : DSt) (x : V × List (Nat × Option VO) × Bool) : Prop :=
 setD n d.fr o.dst x.1 = some d'.fr ∧
 (x.2.2 = false → x.2.1 = [] ∧ d'.free = d.free ∧ d'.dns = d.dns ∧ d'.np = d.np ∧ d'.hp = d.hp ∧ ((wantV ops d.fr o = some false ∧ x.1 = undV) ∨ (wantV ops d.fr o = some true ∧ isPure o.op = true ∧ vpure C d.fr o.op = some x.1) ∨
  (wantV ops d.fr o = some true ∧ isPure o.op = false ∧ ∃ R q, vop C call d.fr ⟨subHp d.hp.t R, d.hp.nx, []⟩ o.op = some (.v x.1, q) ∧ q.log = [] ∧ q.nx = d.hp.nx ∧ (∀ h ∈ R, untouched (maskOf pres k) h d.dns = true) ∧ (k, R) ∈ d'.rds))) ∧
 (∀ p ∈ d.rds, p ∈ d'.rds) ∧
 (x.2.2 = true → wantV ops d.fr o = some true ∧ isPure o.op = false ∧ rdsOk (maskOf pres k) x.2.1 d.rds = true ∧ ∃ Hi q, vop C call d.fr ⟨Hi, d.hp.nx, []⟩ o.op = some (.v x.1, q) ∧ x.2.1 = logSince q q.log ∧ d'.dns = ⟨k, x.2.1⟩ :: d.dns ∧ d'.np = d.np ||| (1 <<< k) ∧ d'.hp.nx = q.nx ∧ d'.hp.log = q.log ++ d.hp.log ∧ logOk q.nx x.2.1 = true ∧
  ((maskLe d.np (maskOf pres k) = true ∧ Hi = d.hp.t ∧ d'.hp.t = q.t ∧ d'.free = (d.free && freshLog d.hp.nx x.2.1)) ∨ (maskLe d.np (maskOf pres k) = false ∧ Hi = seenV d.free t0 (maskOf pres k) d.dns ∧ d'.hp.t = playLog d.hp.t x.2.1 ∧ freshLog d.hp.nx x.2.1 = true ∧ d'.free = d.free)))
theorem vd1_fact {o : Oper} {k : Nat} {d d' : DSt} (h : vd1 C call n ops pres t0 o k d = some d') : ∃ x, Fact C call n ops pres t0 o k d d' x := by
 simp only [vd1, Option.bind_eq_some_iff] at h
 obtain ⟨b, hb, h⟩ := h
 split at h
 ·simp only [Option.bind_eq_some_iff, Option.some.injEq] at h
  obtain ⟨fr, hfr, rfl⟩ := h
  exact ⟨(undV, [], false), hfr, fun _ => ⟨rfl, rfl, rfl, rfl, rfl, .inl ⟨hb, rfl⟩⟩, fun _ h => h, fun h => by simp at h⟩
 ·split at h
  ·rename_i hp
   simp only [Option.bind_eq_some_iff, Option.some.injEq] at h
   obtain ⟨v, hv, fr, hfr, rfl⟩ := h
   exact ⟨(v, [], false), hfr, fun _ => ⟨rfl, rfl, rfl, rfl, rfl, .inr (.inl ⟨hb, hp, hv⟩)⟩, fun _ h => h, fun h => by simp at h⟩
  ·rename_i hp
   split at h
   ·rename_i vR hvR
    simp only [Option.bind_eq_some_iff, Option.some.injEq] at h
    obtain ⟨fr, hfr, rfl⟩ := h
    unfold rdTry at hvR
    split at hvR
    ·simp at hvR
    ·split at hvR
     ·simp at hvR
     ·rename_i hun
      simp only [Option.bind_eq_some_iff] at hvR
      obtain ⟨⟨r, q⟩, hq, hvR⟩ := hvR
      split at hvR
      ·rename_i v e1 e2 e3
       simp only at e1 e2 e3
       subst e1
       simp only [Option.some.injEq] at hvR
       subst hvR
       exact ⟨(v, [], false), hfr, fun _ => ⟨rfl, rfl, rfl, rfl, rfl, .inr (.inr ⟨hb, hp, _, q, hq, e2, Nat.eq_of_beq_eq_true e3, allL_iff.1 hun, List.mem_cons_self⟩)⟩, fun _ h => List.mem_cons_of_mem _ h, fun h => by simp at h⟩
      ·simp at hvR
   split at h
   ·rename_i hm
    simp only [Option.bind_eq_some_iff] at h
    obtain ⟨⟨r, q⟩, hq, h⟩ := h
    split at h
    ·simp at h
    ·rename_i v hv
     simp only at hv
     subst hv
     split at h
     ·simp at h
     ·rename_i hlo
      simp only [Bool.and_eq_true] at hlo
      simp only [Option.bind_eq_some_iff, Option.some.injEq] at h
      obtain ⟨fr, hfr, rfl⟩ := h
      exact ⟨(v, logSince q q.log, true), hfr, fun h => by simp at h, fun _ h => h, fun _ => ⟨hb, hp, hlo.2, d.hp.t, q, hq, rfl, rfl, rfl, rfl, rfl, hlo.1, .inl ⟨hm, rfl, rfl, rfl⟩⟩⟩
   ·rename_i hm
    simp only [Option.bind_eq_some_iff] at h
    obtain ⟨⟨r, q⟩, hq, h⟩ := h
    split at h
    ·simp at h
    ·rename_i v hv
     simp only at hv
     subst hv
     split at h
     ·simp at h
     ·rename_i hlo
      simp only [Bool.and_eq_true] at hlo
      simp only [Option.bind_eq_some_iff, Option.some.injEq] at h
      obtain ⟨fr, hfr, rfl⟩ := h
      exact ⟨(v, logSince q q.log, true), hfr, fun h => by simp at h, fun _ h => h, fun _ => ⟨hb, hp, hlo.2, _, q, hq, rfl, rfl, rfl, rfl, rfl, hlo.1.1, .inr ⟨hm, rfl, rfl, hlo.1.2, rfl⟩⟩⟩
theorem vdraw_nx (hcall : NxOk call) : ∀ (r : List Oper) (i : Nat) (d d' : DSt), vdraw C call n ops pres t0 r i d = some d' → Ext d.hp d'.hp
 | [], i, d, d', h => by
  simp only [vdraw, Option.some.injEq] at h
  subst h
  exact ext_refl _
 | o :: r, i, d, d', h => by
  simp only [vdraw, Option.bind_eq_some_iff] at h
  obtain ⟨d1, h1, h⟩ := h
  refine Ext.trans ?_ (vdraw_nx hcall r (i + 1) d1 d' h)
  obtain ⟨⟨v, l, b⟩, f1, f2, _, f3⟩ := vd1_fact h1
  cases b with
  | false =>
   obtain ⟨_, _, _, _, e, _⟩ := f2 rfl
   rw [e]; exact ext_refl _
  | true =>
   obtain ⟨_, _, _, Hi, q, hq, e1, _, _, e3, e4, e5, e6⟩ := f3 rfl
   obtain ⟨x1, m, x2, x3⟩ := vop_nx hcall hq
   simp only [List.append_nil] at x1 x2
   refine ⟨by rw [e3]; exact x1, q.log, e4, fun y hy => ?_⟩
   rcases e6 with ⟨_, rfl, e7, _⟩ | ⟨_, _, e7, _⟩
   ·rw [e7]; exact x3 y (by rw [← x2]; exact hy)
   ·rw [e7, playLog_get _ _ _ (fun z hz => (logOk_spec e5 z hz).2)]
    simp only at e1
    rw [e1, logSince_lookup, if_neg hy]
end
/- Vf: the machine's regions that draw: the proof that every order comes to the same. By this project. -/
theorem rep_congr {E : Env} {t t' : Tr VO} {w : World} (h : ∀ x, t.get x = t'.get x) (k : Rep E t w) : Rep E t' w :=
 ⟨fun x o hx => k.has x o (by rw [h]; exact hx), fun x y o o' e e' hx hy => k.inj x y o o' e e' (by rw [h]; exact hx) (by rw [h]; exact hy)⟩
theorem frm_congr {E0 E : Env} {t0 t t' : Tr VO} {w0 w : World} (h : ∀ x, t.get x = t'.get x) (k : Frm E0 t0 w0 E t w) : Frm E0 t0 w0 E t' w :=
 ⟨k.os, k.tape, k.output, k.size, k.keep, fun x o e hx he hr => k.new x o e (by rw [h]; exact hx) he hr⟩
theorem out_frame {E0 E1 E2 : Env} {t0 T T' : Tr VO} {hi q : Hp} {w0 w1 w2 : World} {L : List Nat} (hR : Rep E1 T w1) (hF : Frm E0 t0 w0 E1 T w1) (hO : Out E1 hi w1 E2 q w2) (hsub : ∀ h o, hi.t.get h = some o → T.get h = some o)
  (hT : ∀ h, T'.get h = if h ∈ L then q.t.get h else T.get h) (hq : ∀ h, h ∉ L → q.t.get h = hi.t.get h) (hLr : ∀ h ∈ L, roB h = false) : Rep E2 T' w2 ∧ Frm E0 t0 w0 E2 T' w2 := by
 have cls : ∀ h o, T'.get h = some o → q.t.get h = some o ∨ (hi.t.get h = none ∧ T.get h = some o) := fun h o ho => by
  rw [hT] at ho
  split at ho
  ·exact .inl ho
  ·rename_i hn
   cases hh : hi.t.get h with
   | none => exact .inr ⟨rfl, ho⟩
   | some o' =>
    have := hsub h o' hh
    rw [ho] at this
    rw [hq h hn, hh, ← this]
    exact .inl rfl
 have same : ∀ h o e, hi.t.get h = none → T.get h = some o → E1 h = some e → w2.heap[e.1]? = w1.heap[e.1]? := fun h o e hn ho he =>
  hO.frm.keep e.1 (hR.lt ho he) fun h' o' e' hh' he' hro' heq => by
   rcases hR.inj _ _ _ _ _ _ (hsub h' o' hh') ho he' he heq with this | this
   ·subst this
    rw [hn] at hh'
    simp at hh'
   ·rw [hro'] at this
    simp at this
 have old : ∀ h o, T.get h = some o → ∃ e, E1 h = some e ∧ E2 h = some e := fun h o ho => by
  obtain ⟨e, x, h1, _⟩ := hR.has h o ho
  exact ⟨e, h1, hO.le _ _ h1⟩
 refine ⟨⟨fun h o ho => ?_, fun h h' o o' e e' ho ho' he he' hee => ?_⟩, ⟨hO.frm.os.trans hF.os, hO.frm.tape.trans hF.tape, hO.frm.output.trans hF.output, Nat.le_trans hF.size hO.frm.size, fun k hk hn => ?_, fun h o e ho he hro => ?_⟩⟩
 ·rcases cls h o ho with g | ⟨g1, g2⟩
  ·exact hO.rep.has h o g
  ·obtain ⟨e, x, h1, h2, h3⟩ := hR.has h o g2
   exact ⟨e, x, hO.le _ _ h1, by rw [same h o e g1 g2 h1]; exact h2, h3.mono hO.le⟩
 ·have mix : ∀ h h' o o' e e', q.t.get h = some o → hi.t.get h' = none → T.get h' = some o' → E2 h = some e → E2 h' = some e' → e.1 = e'.1 → roB h = true ∧ roB h' = true := fun h h' o o' e e' g k1 k2 he he' hee => by
   obtain ⟨e1, h1, h2⟩ := old h' o' k2
   rw [h2] at he'
   obtain rfl := Option.some.inj he'
   cases hro : roB h with
   | false =>
    rcases hO.frm.new h o e g he hro with ⟨h0, o0, e0, g1, g2, gr, g3⟩ | g1
    ·rcases hR.inj _ _ _ _ _ _ (hsub h0 o0 g1) k2 g2 h1 (g3.trans hee) with this | this
     ·subst this
      rw [k1] at g1
      simp at g1
     ·rw [gr] at this
      simp at this
    ·have := hR.lt k2 h1
     omega
   | true =>
    have hL : h ∉ L := fun hL => by have := hLr h hL; rw [hro] at this; simp at this
    have g' := g
    rw [hq h hL] at g'
    have g2 := hsub h o g'
    obtain ⟨e2, h3, h4⟩ := old h o g2
    rw [h4] at he
    obtain rfl := Option.some.inj he
    rcases hR.inj _ _ _ _ _ _ g2 k2 h3 h1 hee with this | this
    ·subst this
     rw [k1] at g'
     simp at g'
    ·exact ⟨rfl, this.2⟩
  rcases cls h o ho with g | ⟨g1, g2⟩ <;> rcases cls h' o' ho' with k | ⟨k1, k2⟩
  ·exact hO.rep.inj _ _ _ _ _ _ g k he he' hee
  ·exact .inr (mix h h' o o' e e' g k1 k2 he he' hee)
  ·exact .inr (mix h' h o' o e' e k g1 g2 he' he hee.symm).symm
  ·obtain ⟨e1, h1, h2⟩ := old h o g2
   obtain ⟨e2, h3, h4⟩ := old h' o' k2
   rw [h2] at he
   rw [h4] at he'
   obtain rfl := Option.some.inj he
   obtain rfl := Option.some.inj he'
   exact hR.inj _ _ _ _ _ _ g2 k2 h1 h3 hee
 ·rw [hO.frm.keep k (by have := hF.size; omega) fun h o e ho he hro heq => ?_, hF.keep k hk hn]
  rcases hF.new h o e (hsub h o ho) he hro with ⟨h0, o0, e0, g1, g2, gr, g3⟩ | g
  ·exact hn h0 o0 e0 g1 g2 gr (g3.trans heq)
  ·omega
 ·have fromT : ∀ h o e, T.get h = some o → E1 h = some e → roB h = false → (∃ h0 o0 e0, t0.get h0 = some o0 ∧ E0 h0 = some e0 ∧ roB h0 = false ∧ e0.1 = e.1) ∨ w0.heap.size ≤ e.1 := fun h o e ho he hr => hF.new h o e ho he hr
  rcases cls h o ho with g | ⟨g1, g2⟩
  ·rcases hO.frm.new h o e g he hro with ⟨h0, o0, e0, g1, g2, gr, g3⟩ | g1
   ·rcases fromT h0 o0 e0 (hsub h0 o0 g1) g2 gr with ⟨h1, o1, e1, k1, k2, kr, k3⟩ | k
    ·exact .inl ⟨h1, o1, e1, k1, k2, kr, k3.trans g3⟩
    ·exact .inr (by omega)
   ·exact .inr (by have := hF.size; omega)
  ·obtain ⟨e1, h1, h2⟩ := old h o g2
   rw [h2] at he
   obtain rfl := Option.some.inj he
   exact fromT h o e1 g2 h1 hro
structure DInv (E0 : Env) (s : Sv) (a0 : Act) (w0 : World) (nxE : Nat) (T : Tr VO) (F : Tr V) (und : Nat → Prop) (E' : Env) (a' : Act) (w' : World) : Prop where
 le : E0.le E'
 off : ∀ h, (h < s.hp.nx ∨ nxE ≤ h) → E' h = E0 h
 rep : Rep E' T w'
 frm : Frm E0 s.hp.t w0 E' T w'
 fr : FrR E' F a'
 sz : a'.tmps.size = s.n
 df : a'.defers = a0.defers
 free : ∀ h, und h → E' h = none
section
variable {P : Program} {C : Cx} (hC : COk P C) {call : CallF} (hcall : CallOk P call)
include hC hcall
set_option maxHeartbeats 4000000 in
theorem vdraw_ok {id : Nat} {ops : List Oper} {s : Sv} {d' : DSt} (hchk : (apartAll ops (preAll ops 0 .lf) ops 0 [] && edgesOk (preAll ops 0 .lf) ops 0) = true)
    (h1 : vdraw C call s.n ops (preAll ops 0 .lf) s.hp.t ops 0 ⟨true, [], 0, s.fr, s.hp, []⟩ = some d') {E : Env} {a : Act} {w : World} (hS : SvR E s a w) (hf : Free E s.hp.nx d'.hp.nx) :
    (Code.region id ops.toArray true).wp P (Post E s w .norm ⟨d'.fr, s.df, d'.hp, s.n⟩) a w := by
  simp only [Bool.and_eq_true] at hchk
  obtain ⟨hap, hed⟩ := hchk
  have hed := edgesOk_spec hed
  have hap := apartAll_spec hap
  simp only [Nat.zero_add] at hed hap
  obtain ⟨S, S0, SN, hSt⟩ := vdraw_states h1
  simp only [Nat.zero_add] at hSt
  have hlen : ops.length ≤ trMax := by
    rcases Nat.eq_zero_or_pos ops.length with h0 | h0
    · omega
    · have := (hed (ops.length - 1) _ (List.getElem?_eq_getElem (by omega))).2.2.2
      unfold trMax
      omega
  have hpre := (preAll_spec ops 0 .lf (by omega)).2
  simp only [Nat.zero_add] at hpre
  -- what is ahead of what
  have hM : ∀ i o, ops[i]? = some o → ∀ j, bitOf (maskOf (preAll ops 0 .lf) i) j = true ↔ ∃ e ∈ o.after.toList, Region.binds .any e = true ∧ e.on < i ∧ (j = e.on ∨ bitOf (maskOf (preAll ops 0 .lf) e.on) j = true) := by
    intro i o ho j
    obtain ⟨acc, g1, g2⟩ := hpre i o ho
    have hm : maskOf (preAll ops 0 .lf) i = preMask acc o.after.toList 0 := by unfold maskOf; rw [g1]
    have hb := (hed i o ho).1
    unfold edgeB at hb
    rw [allL_iff] at hb
    rw [hm, preMask_bit, bit_zero]
    simp only [Bool.false_eq_true, false_or]
    constructor
    · rintro ⟨e, he, hbe, hj⟩
      have hlt : e.on < i := by have := hb e he; rw [hbe] at this; simpa [Nat.blt_eq] using this
      refine ⟨e, he, hbe, hlt, ?_⟩
      unfold maskOf at hj ⊢
      rw [g2 e.on hlt] at hj
      exact hj
    · rintro ⟨e, he, hbe, hlt, hj⟩
      refine ⟨e, he, hbe, ?_⟩
      unfold maskOf at hj ⊢
      rw [g2 e.on hlt]
      exact hj
  generalize hpres : preAll ops 0 .lf = pres at *
  have hget : ∀ i, i < ops.length → ∃ o, ops[i]? = some o := fun i hi => ⟨_, List.getElem?_eq_getElem hi⟩
  have hin : ∀ {i : Nat} {o : Oper}, ops[i]? = some o → i < ops.length := fun h => (List.getElem?_eq_some_iff.1 h).1
  have hBlt : ∀ i, i < ops.length → ∀ j, bitOf (maskOf pres i) j = true → j < i := by
    intro i
    induction i using Nat.strongRecOn with
    | _ i ih =>
      intro hi j hj
      obtain ⟨o, ho⟩ := hget i hi
      obtain ⟨e, _, _, hlt, h⟩ := (hM i o ho j).1 hj
      rcases h with rfl | h
      · exact hlt
      · have := ih e.on hlt (by omega) j h
        omega
  have hBtr : ∀ i, i < ops.length → ∀ k j, bitOf (maskOf pres i) k = true → bitOf (maskOf pres k) j = true → bitOf (maskOf pres i) j = true := by
    intro i
    induction i using Nat.strongRecOn with
    | _ i ih =>
      intro hi k j hk hj
      obtain ⟨o, ho⟩ := hget i hi
      obtain ⟨e, he, hbe, hlt, h⟩ := (hM i o ho k).1 hk
      refine (hM i o ho j).2 ⟨e, he, hbe, hlt, .inr ?_⟩
      rcases h with rfl | h
      · exact hj
      · exact ih e.on hlt (by omega) k j h hj
  -- what each has come to
  have hfact : ∀ k, ∃ x, ∀ o, ops[k]? = some o → Fact C call s.n ops pres s.hp.t o k (S k) (S (k + 1)) x := fun k => by
    rcases Nat.lt_or_ge k ops.length with hk | hk
    · obtain ⟨o, ho⟩ := hget k hk
      obtain ⟨x, hx⟩ := vd1_fact (hSt k o ho)
      exact ⟨x, fun o' ho' => by rw [ho] at ho'; obtain rfl := Option.some.inj ho'; exact hx⟩
    · exact ⟨(undV, [], false), fun o ho => by have := hin ho; omega⟩
  obtain ⟨X, hX⟩ := Classical.skolem.1 hfact
  let lg : Nat → List (Nat × Option VO) := fun k => if k < ops.length then (X k).2.1 else []
  let vs : Nat → V := fun k => (X k).1
  let ds : Nat → Option Tmp := fun k => (ops[k]?).bind (·.dst)
  have hlg : ∀ k, k < ops.length → lg k = (X k).2.1 := fun k hk => by simp only [lg, if_pos hk]
  have hquiet : ∀ k o, ops[k]? = some o → (X k).2.2 = false → lg k = [] := fun k o ho hx => by
    rw [hlg k (hin ho)]; exact ((hX k o ho).2.1 hx).1
  have hlo : ∀ k o, ops[k]? = some o → ∀ x ∈ lg k, x.1 < (S (k + 1)).hp.nx ∧ roB x.1 = false := fun k o ho x hx => by
    cases hb : (X k).2.2 with
    | false => rw [hquiet k o ho hb] at hx; simp at hx
    | true =>
      obtain ⟨_, _, _, Hi, q, _, _, _, _, e3, _, e5, _⟩ := (hX k o ho).2.2.2 hb
      rw [hlg k (hin ho)] at hx
      rw [e3]
      exact logOk_spec e5 x hx
  have hsm : ∀ k, ∀ x ∈ lg k, roB x.1 = false := fun k x hx => by
    rcases Nat.lt_or_ge k ops.length with hk | hk
    · obtain ⟨o, ho⟩ := hget k hk
      exact (hlo k o ho x hx).2
    · simp only [lg] at hx
      rw [if_neg (by omega)] at hx
      simp at hx
  have hdsm : ∀ k d, ds k = some d → d < trMax := fun k d hd => by
    simp only [ds, Option.bind_eq_some_iff] at hd
    obtain ⟨o, ho, hd⟩ := hd
    have := (hX k o ho).1
    rw [hd] at this
    simp only [setD] at this
    split at this
    · rename_i hb
      have hdlt : d < s.n := by simpa [Nat.blt_eq] using hb
      exact Nat.lt_of_lt_of_le hdlt hS.n
    · simp at this
  -- handles grow
  have hnx1 : ∀ k o, ops[k]? = some o → (S k).hp.nx ≤ (S (k + 1)).hp.nx := fun k o ho => by
    cases hb : (X k).2.2 with
    | false =>
      obtain ⟨_, _, _, _, e, _⟩ := (hX k o ho).2.1 hb
      rw [e]; exact Nat.le_refl _
    | true =>
      obtain ⟨_, _, _, Hi, q, hq, _, _, _, e3, _, _, _⟩ := (hX k o ho).2.2.2 hb
      rw [e3]; exact (vop_nx hcall.nx hq).nx
  have hnx : ∀ k, k ≤ ops.length → ∀ j, j ≤ k → (S j).hp.nx ≤ (S k).hp.nx := by
    intro k
    induction k with
    | zero => intro _ j hj; have : j = 0 := by omega
              subst this; exact Nat.le_refl _
    | succ k ih =>
      intro hk j hj
      obtain ⟨o, ho⟩ := hget k (by omega)
      rcases Nat.lt_or_ge j (k + 1) with h | h
      · exact Nat.le_trans (ih (by omega) j (by omega)) (hnx1 k o ho)
      · have : j = k + 1 := by omega
        subst this; exact Nat.le_refl _
  have hnxS : (S 0).hp.nx = s.hp.nx := by rw [S0]
  have hnxE : (S ops.length).hp.nx = d'.hp.nx := by rw [SN]
  -- memory, frames as they were in the order of the text
  have hmem : ∀ k, k ≤ ops.length → ∀ h, (S k).hp.t.get h = (TDm s.hp.t lg (fun _ => true) k).get h := by
    intro k
    induction k with
    | zero => intro _ h; rw [S0]; rfl
    | succ k ih =>
      intro hk h
      obtain ⟨o, ho⟩ := hget k (by omega)
      rw [TDm_succ hsm, if_pos rfl, ← ih (by omega)]
      cases hb : (X k).2.2 with
      | false =>
        obtain ⟨_, _, _, _, e, _⟩ := (hX k o ho).2.1 hb
        rw [hquiet k o ho hb, e]; rfl
      | true =>
        obtain ⟨_, _, _, Hi, q, hq, e1, _, _, e3, e4, e5, e6⟩ := (hX k o ho).2.2.2 hb
        rw [hlg k (hin ho)]
        rcases e6 with ⟨_, rfl, e7, _⟩ | ⟨_, _, e7, _⟩
        · rw [e7, e1, logSince_lookup]
          obtain ⟨_, l, x2, x3⟩ := vop_nx hcall.nx hq
          simp only [List.append_nil] at x2
          split
          · rename_i hh
            split at hh
            · simp only [Option.some.injEq] at hh; exact hh
            · simp at hh
          · rename_i hh
            split at hh
            · simp at hh
            · rename_i hn
              exact x3 h (by rw [← x2]; exact hn)
        · rw [e7, playLog_get _ _ _ (fun z hz => (logOk_spec e5 z hz).2)]
  have hplay : ∀ k, k ≤ ops.length → ∀ m, playDn s.hp.t m (S k).dns = TDm s.hp.t lg (fun j => bitOf m j) k := by
    intro k
    induction k with
    | zero => intro _ m; rw [S0]; rfl
    | succ k ih =>
      intro hk m
      obtain ⟨o, ho⟩ := hget k (by omega)
      simp only [TDm]
      rw [← ih (by omega)]
      cases hb : (X k).2.2 with
      | false =>
        obtain ⟨_, _, e, _⟩ := (hX k o ho).2.1 hb
        rw [hquiet k o ho hb, e]
        simp [playLog]
      | true =>
        obtain ⟨_, _, _, Hi, q, hq, e1, e2, _⟩ := (hX k o ho).2.2.2 hb
        rw [e2, hlg k (hin ho)]
        simp only [playDn]
        by_cases hh : bitOf m k = true
        · rw [if_pos hh]; simp only [hh]
        · rw [if_neg hh]
          have hh : bitOf m k = false := by simpa using hh
          simp only [hh]
  have hnp : ∀ k, k ≤ ops.length → ∀ j, bitOf (S k).np j = true ↔ (j < k ∧ (X j).2.2 = true) := by
    intro k
    induction k with
    | zero => intro _ j; rw [S0]; simp [bit_zero]
    | succ k ih =>
      intro hk j
      obtain ⟨o, ho⟩ := hget k (by omega)
      cases hb : (X k).2.2 with
      | false =>
        obtain ⟨_, _, _, e, _⟩ := (hX k o ho).2.1 hb
        rw [e, ih (by omega)]
        constructor
        · rintro ⟨h1, h2⟩; exact ⟨by omega, h2⟩
        · rintro ⟨h1, h2⟩
          refine ⟨?_, h2⟩
          rcases Nat.lt_or_ge j k with h | h
          · exact h
          · have : j = k := by omega
            subst this; rw [hb] at h2; simp at h2
      | true =>
        obtain ⟨_, _, _, Hi, q, hq, e1, _, e2, _⟩ := (hX k o ho).2.2.2 hb
        rw [e2, bit_or, bit_one]
        simp only [Bool.or_eq_true, decide_eq_true_eq]
        rw [ih (by omega)]
        constructor
        · rintro (⟨h1, h2⟩ | h)
          · exact ⟨by omega, h2⟩
          · subst h; exact ⟨by omega, hb⟩
        · rintro ⟨h1, h2⟩
          rcases Nat.lt_or_ge j k with h | h
          · exact .inl ⟨h, h2⟩
          · exact .inr (by omega)
  have hfree : ∀ k, k ≤ ops.length → (S k).free = true → ∀ j, j < k → (X j).2.2 = true → ∀ x ∈ lg j, (S j).hp.nx ≤ x.1 := by
    intro k
    induction k with
    | zero => intro _ _ j hj; omega
    | succ k ih =>
      intro hk hfr j hj hbj
      obtain ⟨o, ho⟩ := hget k (by omega)
      cases hb : (X k).2.2 with
      | false =>
        obtain ⟨_, e, _⟩ := (hX k o ho).2.1 hb
        rw [e] at hfr
        refine ih (by omega) hfr j ?_ hbj
        rcases Nat.lt_or_ge j k with h | h
        · exact h
        · have : j = k := by omega
          subst this; rw [hb] at hbj; simp at hbj
      | true =>
        obtain ⟨_, _, _, Hi, q, hq, e1, _, _, _, _, _, e6⟩ := (hX k o ho).2.2.2 hb
        have hfk : (S k).free = true ∧ freshLog (S k).hp.nx (X k).2.1 = true := by
          rcases e6 with ⟨_, _, _, e⟩ | ⟨_, _, _, e', e⟩
          · rw [e] at hfr; simpa using hfr
          · rw [e] at hfr; exact ⟨hfr, e'⟩
        rcases Nat.lt_or_ge j k with h | h
        · exact ih (by omega) hfk.1 j h hbj
        · have : j = k := by omega
          subst this
          rw [hlg j (hin ho)]
          exact fresh_spec hfk.2
  -- two without an order have written new memory alone
  have hun : ∀ j k, j < k → k < ops.length → (X j).2.2 = true → (X k).2.2 = true → bitOf (maskOf pres k) j = false → ∀ x ∈ lg k, (S k).hp.nx ≤ x.1 := by
    intro j k hjk hk hbj hbk hB
    obtain ⟨o, ho⟩ := hget k hk
    obtain ⟨_, _, _, Hi, q, hq, e1, _, _, _, _, _, e6⟩ := (hX k o ho).2.2.2 hbk
    rcases e6 with ⟨e, _⟩ | ⟨_, _, _, e', _⟩
    · have := maskLe_bit e j ((hnp k (by omega) j).2 ⟨hjk, hbj⟩)
      rw [hB] at this; simp at this
    · rw [hlg k hk]; exact fresh_spec e'
  have himp : ∀ j h, (lg j).lookup h ≠ none → j < ops.length ∧ (X j).2.2 = true ∧ h < (S (j + 1)).hp.nx := by
    intro j h hl
    have hj : j < ops.length := by
      rcases Nat.lt_or_ge j ops.length with hk | hk
      · exact hk
      · simp only [lg] at hl
        rw [if_neg (by omega)] at hl
        simp at hl
    obtain ⟨o, ho⟩ := hget j hj
    refine ⟨hj, ?_, ?_⟩
    · cases hb : (X j).2.2 with
      | true => rfl
      | false => rw [hquiet j o ho hb] at hl; simp at hl
    · cases hlo' : (lg j).lookup h with
      | none => exact absurd hlo' hl
      | some v => exact (hlo j o ho _ (mem_of_lookup hlo')).1
  have hmemlog : ∀ j h, (lg j).lookup h ≠ none → ∃ v, (h, v) ∈ lg j := fun j h hl => by
    cases hlo' : (lg j).lookup h with
    | none => exact absurd hlo' hl
    | some v => exact ⟨v, mem_of_lookup hlo'⟩
  -- two without an order write apart
  have hapart : ∀ j k h, j ≠ k → (lg j).lookup h ≠ none → (lg k).lookup h ≠ none → bitOf (maskOf pres k) j = false → bitOf (maskOf pres j) k = false → False := by
    have half : ∀ j k h, j < k → (lg j).lookup h ≠ none → (lg k).lookup h ≠ none → bitOf (maskOf pres k) j = false → False := by
      intro j k h hjk hj hk hB
      obtain ⟨j1, j2, j3⟩ := himp j h hj
      obtain ⟨k1, k2, k3⟩ := himp k h hk
      obtain ⟨v, hv⟩ := hmemlog k h hk
      have := hun j k hjk k1 j2 k2 hB _ hv
      have := hnx k (by omega) (j + 1) (by omega)
      simp only at *
      omega
    intro j k h hne hj hk hB hB'
    rcases Nat.lt_or_ge j k with h' | h'
    · exact half j k h h' hj hk hB
    · exact half k j h (by omega) hk hj hB'
  have hdns : ∀ k, k ≤ ops.length → ∀ j, j < k → (X j).2.2 = true → (⟨j, lg j⟩ : Dn) ∈ (S k).dns := by
    intro k
    induction k with
    | zero => intro _ j hj; omega
    | succ k ih =>
      intro hk j hj hbj
      obtain ⟨o, ho⟩ := hget k (by omega)
      cases hb : (X k).2.2 with
      | false =>
        obtain ⟨_, _, e, _⟩ := (hX k o ho).2.1 hb
        rw [e]
        refine ih (by omega) j ?_ hbj
        rcases Nat.lt_or_ge j k with h | h
        · exact h
        · have : j = k := by omega
          subst this; rw [hb] at hbj; simp at hbj
      | true =>
        obtain ⟨_, _, _, Hi, q, hq, e1, e2, _⟩ := (hX k o ho).2.2.2 hb
        rw [e2]
        rcases Nat.lt_or_ge j k with h | h
        · exact List.mem_cons_of_mem _ (ih (by omega) j h hbj)
        · have : j = k := by omega
          subst this
          rw [hlg j (hin ho)]
          exact List.mem_cons_self
  have hrds : ∀ k, k ≤ ops.length → ∀ j, j < k → ∀ p, p ∈ (S (j + 1)).rds → p ∈ (S k).rds := by
    intro k
    induction k with
    | zero => intro _ j hj; omega
    | succ k ih =>
      intro hk j hj p hp
      obtain ⟨o, ho⟩ := hget k (by omega)
      rcases Nat.lt_or_ge j k with h | h
      · exact (hX k o ho).2.2.1 p (ih (by omega) j h p hp)
      · have : j = k := by omega
        subst this
        exact hp
  have hHi : ∀ k o, ops[k]? = some o → (X k).2.2 = true → ∃ Hi q, vop C call (S k).fr ⟨Hi, (S k).hp.nx, []⟩ o.op = some (.v (vs k), q) ∧ lg k = logSince q q.log ∧ (S (k + 1)).hp.nx = q.nx ∧ (∀ h o', Hi.get h = some o' → (TDm s.hp.t lg (fun j => bitOf (maskOf pres k) j) ops.length).get h = some o') ∧
      ∀ j, j < k → (X j).2.2 = true → bitOf (maskOf pres k) j = false → (∀ x ∈ lg j, (S j).hp.nx ≤ x.1) ∨ (∀ h, (lg j).lookup h ≠ none → Hi.get h = none) := by
    intro k o ho hb
    obtain ⟨_, _, _, Hi, q, hq, e1, _, _, e3, _, _, e6⟩ := (hX k o ho).2.2.2 hb
    refine ⟨Hi, q, hq, by rw [hlg k (hin ho)]; exact e1, e3, fun h o' hh => ?_, fun j hjk hbj hB => ?_⟩
    rotate_left
    · rcases e6 with ⟨e, _⟩ | ⟨_, rfl, _⟩
      · have := maskLe_bit e j ((hnp k (by have := hin ho; omega) j).2 ⟨hjk, hbj⟩)
        rw [hB] at this; simp at this
      · cases hfk : (S k).free with
        | true => exact .inl (hfree k (by have := hin ho; omega) hfk j hjk hbj)
        | false =>
          refine .inr fun h hl => ?_
          cases hg : (seenV false s.hp.t (maskOf pres k) (S k).dns).get h with
          | none => rfl
          | some o' =>
            have := (dropDn_get (S k).dns h o' hg).2 _ (hdns k (by have := hin ho; omega) j hjk hbj) hB
            exact absurd this hl
    rw [← hh]
    have hle : ∀ {x y : Option VO}, x = y → y = x := fun e => e.symm
    rcases e6 with ⟨e, rfl, e6⟩ | ⟨e, rfl, e6⟩
    rotate_left
    · rw [TDm_out hsm (m := k) ops.length (by have := hin ho; omega) (fun j hj => by
        rw [Bool.eq_false_iff]; intro hB
        have := hBlt k (hin ho) j hB
        omega), ← hplay k (by have := hin ho; omega)]
      cases hfk : (S k).free with
      | true => rfl
      | false =>
        rw [hfk] at hh
        rw [hh]
        exact (dropDn_get (S k).dns h o' hh).1
    apply hle
    rw [TDm_out hsm (m := k) ops.length (by have := hin ho; omega) (fun j hj => by
      rw [Bool.eq_false_iff]; intro hB
      have := hBlt k (hin ho) j hB
      omega)]
    rw [hmem k (by have := hin ho; omega)]
    refine TDm_congr hsm k fun j hj hl => ?_
    obtain ⟨_, hbj, _⟩ := himp j h hl
    exact (maskLe_bit e j ((hnp k (by have := hin ho; omega) j).2 ⟨hj, hbj⟩)).symm
  have hframe : ∀ k, k ≤ ops.length → ∀ t, (S k).fr.get t = (FT s.fr ds vs (fun _ => true) k).get t := by
    intro k
    induction k with
    | zero => intro _ t; rw [S0]; rfl
    | succ k ih =>
      intro hk t
      obtain ⟨o, ho⟩ := hget k (by omega)
      rw [FT_succ hdsm, ← ih (by omega)]
      have hd : ds k = o.dst := by simp only [ds, ho, Option.bind_some]
      have h0 := (hX k o ho).1
      cases hdo : o.dst with
      | none =>
        rw [hdo] at h0 hd
        simp only [setD, Option.some.injEq] at h0
        rw [← h0, hd, if_neg (by simp)]
      | some d =>
        rw [hdo] at h0 hd
        simp only [setD] at h0
        split at h0
        · rename_i hblt
          have hdlt : d < s.n := by simpa [Nat.blt_eq] using hblt
          simp only [Option.some.injEq] at h0
          rw [← h0, hd, Tr.get_set _ _ _]
          by_cases e : t = d
          · subst e; rw [if_pos rfl, if_pos ⟨rfl, rfl⟩]
          · rw [if_neg e, if_neg (fun h => e (Option.some.inj h.2).symm)]
        · simp at h0
  -- a slot that an operation looks at holds the same, in whatever order
  have hlook : ∀ (D : Nat → Bool), (∀ k, k < ops.length → D k = true → ∀ j, bitOf (maskOf pres k) j = true → D j = true) → ∀ i o, ops[i]? = some o → D i = false → (∀ j, bitOf (maskOf pres i) j = true → D j = true) →
      ∀ t, (sameDst (some t) (guardT ops o) = true ∨ ∃ x ∈ o.op.operands.toList, x = .tmp t) → (S i).fr.get t = (FT s.fr ds vs D ops.length).get t := by
    intro D hcl i o ho hDi hBi t ht
    rw [hframe i (by have := hin ho; omega)]
    rw [show (FT s.fr ds vs (fun _ => true) i).get t = (FT s.fr ds vs (fun j => decide (j < i)) i).get t from FT_congr hdsm i fun j hj _ => by simp [hj]]
    rw [← FT_out hdsm (m := i) ops.length (by have := hin ho; omega) (fun j hj => by simp; omega) t]
    refine FT_congr hdsm ops.length fun j hj hdj => ?_
    obtain ⟨oj, hoj⟩ := hget j hj
    have hdo : oj.dst = some t := by simpa only [ds, hoj, Option.bind_some] using hdj
    rcases Nat.lt_trichotomy j i with h | h | h
    · have h2 := (hap i o ho).2 j oj h hoj
      have hB : bitOf (maskOf pres i) j = true := by
        unfold apartB at h2
        split at h2
        · assumption
        · exfalso
          split at h2
          · simp at h2
          · rename_i hno
            simp only [Bool.or_eq_false_iff] at hno
            rcases ht with ht | ⟨x, hx, rfl⟩
            · rw [hdo, ht] at hno; simp at hno
            · have := hno.1.1.1.2
              rw [Bool.eq_false_iff] at this
              exact this (anyL_iff.2 ⟨_, hx, sameTmp_iff.2 ⟨t, hdo, rfl⟩⟩)
      rw [hBi j hB]
      simp [h]
    · subst h
      rw [hDi]; simp
    · have h2 := (hap j oj hoj).2 i o h ho
      have hB : bitOf (maskOf pres j) i = true := by
        unfold apartB at h2
        split at h2
        · assumption
        · exfalso
          split at h2
          · simp at h2
          · rename_i hno
            simp only [Bool.or_eq_false_iff] at hno
            rcases ht with ht | ⟨x, hx, rfl⟩
            · have := hno.2; rw [hdo, ht] at this; simp at this
            · have := hno.1.1.2
              rw [Bool.eq_false_iff] at this
              exact this (anyL_iff.2 ⟨_, hx, sameTmp_iff.2 ⟨t, hdo, rfl⟩⟩)
      have hDj : D j = false := by
        rw [Bool.eq_false_iff]; intro hDj
        have := hcl j hj hDj i hB
        rw [hDi] at this; simp at this
      rw [hDj]
      simp; omega
  let T : (Nat → Bool) → Tr VO := fun D => TDm s.hp.t lg D ops.length
  let F : (Nat → Bool) → Tr V := fun D => FT s.fr ds vs D ops.length
  let und : (Nat → Bool) → Nat → Prop := fun D h => ∃ i, i < ops.length ∧ D i = false ∧ (S i).hp.nx ≤ h ∧ h < (S (i + 1)).hp.nx
  let Cl : (Nat → Bool) → Prop := fun D => ∀ k, k < ops.length → D k = true → ∀ j, bitOf (maskOf pres k) j = true → D j = true
  let up : (Nat → Bool) → Nat → Nat → Bool := fun D i j => if j = i then true else D j
  -- the frame behind one more
  have hFup : ∀ D i o, Cl D → ops[i]? = some o → D i = false → ∀ t, (F (up D i)).get t = if o.dst = some t then some (vs i) else (F D).get t := by
    intro D i o hcl ho hDi t
    by_cases hd : o.dst = some t
    · rw [if_pos hd]
      refine FT_last hdsm ops.length (hin ho) (by simp [up]) (by simp only [ds, ho, Option.bind_some]; exact hd) fun j h1 h2 hDj hdj => ?_
      obtain ⟨oj, hoj⟩ := hget j h2
      have hdo : oj.dst = some t := by simpa only [ds, hoj, Option.bind_some] using hdj
      have hDj' : D j = true := by simpa [up, show j ≠ i by omega] using hDj
      have h3 := (hap j oj hoj).2 i o h1 ho
      unfold apartB at h3
      split at h3
      · rename_i hB
        have := hcl j h2 hDj' i hB
        rw [hDi] at this; simp at this
      · split at h3
        · simp at h3
        · rename_i hno
          simp only [Bool.or_eq_false_iff] at hno
          have := hno.1.1.1.1
          rw [hd, hdo] at this
          simp [sameDst] at this
    · rw [if_neg hd]
      refine FT_congr hdsm ops.length fun j hj hdj => ?_
      simp only [up]
      by_cases e : j = i
      · subst e
        simp only [ds, ho, Option.bind_some] at hdj
        exact absurd hdj hd
      · rw [if_neg e]
  have hclup : ∀ D i o, Cl D → ops[i]? = some o → (∀ j, bitOf (maskOf pres i) j = true → D j = true) → Cl (up D i) := by
    intro D i o hcl ho hBi k hk hDk j hB
    simp only [up] at hDk ⊢
    by_cases e : j = i
    · rw [if_pos e]
    · rw [if_neg e]
      by_cases e' : k = i
      · subst e'; exact hBi j hB
      · rw [if_neg e'] at hDk
        exact hcl k hk hDk j hB
  have hundup : ∀ D i h, und (up D i) h → und D h := by
    intro D i h ⟨k, k1, k2, k3⟩
    simp only [up] at k2
    by_cases e : k = i
    · rw [if_pos e] at k2; simp at k2
    · rw [if_neg e] at k2; exact ⟨k, k1, k2, k3⟩
  -- one operation
  have hwant : ∀ D i o, Cl D → ops[i]? = some o → D i = false → (∀ j, bitOf (maskOf pres i) j = true → D j = true) → wantV ops (S i).fr o = wantV ops (F D) o := by
    intro D i o hcl ho hDi hBi
    unfold wantV
    cases hg : o.guard with
    | none => rfl
    | some jt =>
      obtain ⟨j, t⟩ := jt
      simp only
      cases hoj : getL ops j with
      | none => rfl
      | some oj =>
        simp only [Option.bind_some]
        cases hd : oj.dst with
        | none => rfl
        | some d =>
          simp only [Option.bind_some]
          rw [hlook D hcl i o ho hDi hBi d (.inl (sameDst_iff.2 ⟨d, rfl, by unfold guardT; rw [hg]; simp only [hoj, Option.bind_some, hd]⟩))]
  have hops : ∀ D i o, Cl D → ops[i]? = some o → D i = false → (∀ j, bitOf (maskOf pres i) j = true → D j = true) → ∀ x ∈ o.op.operands.toList, evV (S i).fr x = evV (F D) x := by
    intro D i o hcl ho hDi hBi x hx
    exact evV_congr fun t hxt => hlook D hcl i o ho hDi hBi t (.inr ⟨x, hx, hxt⟩)
  have hstep : ∀ D i o, Cl D → ops[i]? = some o → D i = false → (∀ j, bitOf (maskOf pres i) j = true → D j = true) → ∀ E' a' w', DInv E s a w d'.hp.nx (T D) (F D) (und D) E' a' w' → ∀ K Q, (∀ E'' a'' w'', DInv E s a w d'.hp.nx (T (up D i)) (F (up D i)) (und (up D i)) E'' a'' w'' → K a'' w'') →
      wpOp P ops.toArray Q i K a' w' := by
    intro D i o hcl ho hDi hBi E' a' w' hI K Q hK
    have hi := hin ho
    unfold wpOp
    simp only [List.getElem?_toArray, ho]
    have hfrup : ∀ {E'' : Env} {a'' : Act} {fr' : Tr V}, FrR E'' fr' a'' → (∀ t, fr'.get t = if o.dst = some t then some (vs i) else (F D).get t) → FrR E'' (F (up D i)) a'' := fun {E'' a'' fr'} hfr hg =>
      ⟨fun t v hv => by rw [hFup D i o hcl ho hDi] at hv; exact hfr.look t v (by rw [hg]; exact hv), hfr.gl⟩
    have hset : ∀ {fr' : Tr V}, setD s.n (F D) o.dst (vs i) = some fr' → ∀ t, fr'.get t = if o.dst = some t then some (vs i) else (F D).get t := by
      intro fr' h t
      cases hdo : o.dst with
      | none =>
        rw [hdo] at h
        simp only [setD, Option.some.injEq] at h
        rw [← h, if_neg (by simp)]
      | some d =>
        rw [hdo] at h
        simp only [setD] at h
        split at h
        · rename_i hblt
          have hdlt : d < s.n := by simpa [Nat.blt_eq] using hblt
          simp only [Option.some.injEq] at h
          rw [← h, Tr.get_set _ _ _]
          by_cases e : t = d
          · subst e; rw [if_pos rfl, if_pos rfl]
          · rw [if_neg e, if_neg (fun h => e (Option.some.inj h).symm)]
        · simp at h
    have hset2 : ∃ fr', setD s.n (F D) o.dst (vs i) = some fr' := by
      have h0 := (hX i o ho).1
      cases hdo : o.dst with
      | none => exact ⟨_, rfl⟩
      | some d =>
        rw [hdo] at h0
        simp only [setD] at h0 ⊢
        split at h0
        · rename_i hb; first | exact ⟨_, rfl⟩ | (rw [hb]; exact ⟨_, rfl⟩)
        · simp at h0
    obtain ⟨fr', hfr'⟩ := hset2
    have hw := hwant D i o hcl ho hDi hBi
    cases hb : (X i).2.2 with
    | false =>
      have hTup : T (up D i) = T D := by
        simp only [T]
        have : ∀ n, TDm s.hp.t lg (up D i) n = TDm s.hp.t lg D n := fun n => by
          induction n with
          | zero => rfl
          | succ n ih =>
            simp only [TDm, ih]
            by_cases e : n = i
            · subst e
              rw [hquiet n o ho hb]
              simp [playLog]
            · simp only [up, if_neg e]
        exact this _
      have hfin : ∀ x, ren E' (vs i) = some x → K (a'.put o.dst x) w' := fun x hx => by
        refine hK E' _ _ ⟨hI.le, hI.off, by rw [hTup]; exact hI.rep, by rw [hTup]; exact hI.frm, ?_, by rw [put_size]; exact hI.sz, by rw [put_df]; exact hI.df, fun h hh => hI.free h (hundup D i h hh)⟩
        exact hfrup (hI.fr.put hS.n hI.sz hfr' hx) (hset hfr')
      obtain ⟨_, _, _, _, _, hcase⟩ := (hX i o ho).2.1 hb
      rcases hcase with ⟨k1, k2⟩ | ⟨k1, k2, k3⟩ | ⟨k1, _, R, q, hq, hql, hqn, hRu, hRm⟩
      · rw [hw] at k1
        rw [want_ok hI.fr k1]
        simp only [Bool.false_eq_true, if_false]
        refine hfin undef ?_
        have : vs i = undV := k2
        rw [this]; rfl
      · rw [hw] at k1
        rw [want_ok hI.fr k1]
        simp only [if_true]
        rw [(vop_congr (C := C) (call := call) (hp := s.hp) (hops D i o hcl ho hDi hBi)).2] at k3
        obtain ⟨dst, op, ty, ps, af, gd⟩ := o
        obtain ⟨x, q1, q2⟩ := vpure_ok hC hI.fr k3 dst ty ps af gd
        left
        unfold Oper.wp
        rw [q2 w']
        exact hfin x q1
      · rw [hw] at k1
        rw [want_ok hI.fr k1]
        simp only [if_true]
        left
        rw [(vop_congr (hops D i o hcl ho hDi hBi)).1] at hq
        obtain ⟨_, lq, x2, x3⟩ := vop_nx hcall.nx hq
        simp only [List.append_nil] at x2
        rw [hql] at x2
        subst x2
        have hsub : ∀ h o', (subHp (S i).hp.t R).get h = some o' → (T D).get h = some o' := by
          intro h o' hh
          obtain ⟨g1, g2⟩ := subHp_get hh
          rw [hmem i (by omega)] at g2
          rw [← g2]
          rw [show (TDm s.hp.t lg (fun _ => true) i).get h = (TDm s.hp.t lg (fun j => decide (j < i)) i).get h from TDm_congr hsm i fun j hj _ => by simp [hj]]
          rw [← TDm_out hsm (m := i) ops.length (by omega) (fun j hj => by simp; omega)]
          refine TDm_congr hsm ops.length fun j hj hl => ?_
          obtain ⟨j1, j2, j3⟩ := himp j h hl
          rcases Nat.lt_trichotomy j i with h' | h' | h'
          · have hB : bitOf (maskOf pres i) j = true := by
              cases hb' : bitOf (maskOf pres i) j with
              | true => rfl
              | false => exact absurd (untouched_spec (hRu h g1) _ (hdns i (by omega) j h' j2) hb') hl
            rw [hBi j hB]
            simp [h']
          · subst h'
            rw [hb] at j2; simp at j2
          · have hB : bitOf (maskOf pres j) i = true := by
              cases hb' : bitOf (maskOf pres j) i with
              | true => rfl
              | false =>
                obtain ⟨oj, hoj⟩ := hget j j1
                have := rdsOk_spec ((hX j oj hoj).2.2.2 j2).2.2.1 _ (hrds j (by omega) i h' _ hRm) hb' h g1
                rw [hlg j j1] at hl
                exact absurd this hl
            have hDj : D j = false := by
              rw [Bool.eq_false_iff]; intro hDj
              have := hcl j hj hDj i hB
              rw [hDi] at this; simp at this
            rw [hDj]
            simp; omega
        have hrepHi : Rep E' (subHp (S i).hp.t R) w' := ⟨fun h o' hh => hI.rep.has h o' (hsub h o' hh), fun h h' o1 o2 e e' hh hh' => hI.rep.inj h h' o1 o2 e e' (hsub _ _ hh) (hsub _ _ hh')⟩
        have hsv : SvR E' ⟨F D, s.df, ⟨subHp (S i).hp.t R, (S i).hp.nx, []⟩, s.n⟩ a' w' := ⟨hI.fr, hrepHi, hI.sz, hS.n, by rw [hI.df]; exact hS.df.mono hI.le⟩
        have hfree' : Free E' (S i).hp.nx q.nx := fun h g1 g2 => by omega
        refine op_step hC hcall hsv hq hfree' ⟨fr', hfr', fun E'' x w'' ho' hsv' => ?_⟩
        obtain ⟨r1, r2⟩ := out_frame (T' := T (up D i)) (L := []) hI.rep hI.frm ho' hsub (fun h => by rw [hTup]; simp) (fun h _ => x3 h (by simp)) fun h hh => by simp at hh
        refine hK E'' _ _ ⟨Env.le_trans hI.le ho'.le, fun h hh => ?_, r1, r2, hfrup hsv'.fr (hset hfr'), hsv'.sz, by rw [put_df]; exact hI.df, fun h hh => ?_⟩
        · rw [ho'.off h (by simp only; omega), hI.off h hh]
        · rw [ho'.off h (by simp only; omega)]
          exact hI.free h (hundup D i h hh)
    | true =>
      obtain ⟨k1, _, _⟩ := (hX i o ho).2.2.2 hb
      rw [hw] at k1
      rw [want_ok hI.fr k1]
      simp only [if_true]
      left
      obtain ⟨Hi, q, hq, hlq, hqn, hHi', hHun⟩ := hHi i o ho hb
      rw [(vop_congr (hops D i o hcl ho hDi hBi)).1] at hq
      obtain ⟨_, lq, x2, x3⟩ := vop_nx hcall.nx hq
      simp only [List.append_nil] at x2
      subst x2
      have hnxi := hnx1 i o ho
      -- the part of memory that it saw lies there
      have hsub : ∀ h o', Hi.get h = some o' → (T D).get h = some o' := by
        intro h o' hh0
        have hh := hHi' h o' hh0
        rw [← hh]
        symm
        refine TDm_congr hsm ops.length fun j hj hl => ?_
        by_cases hB : bitOf (maskOf pres i) j = true
        · rw [hB, hBi j hB]
        · have hB : bitOf (maskOf pres i) j = false := by simpa using hB
          rw [hB]
          rw [eq_comm, Bool.eq_false_iff]
          intro hDj
          have hji : j ≠ i := fun e => by rw [e, hDi] at hDj; simp at hDj
          obtain ⟨j1, j2, j3⟩ := himp j h hl
          have hB' : bitOf (maskOf pres j) i = false := by
            rw [Bool.eq_false_iff]; intro hB'
            have := hcl j j1 hDj i hB'
            rw [hDi] at this; simp at this
          have hfr : (S j).hp.nx ≤ h := by
            obtain ⟨v, hv⟩ := hmemlog j h hl
            rcases Nat.lt_or_ge j i with hlt | hge
            · rcases hHun j hlt j2 hB with g | g
              · exact g _ hv
              · rw [g h hl] at hh0; simp at hh0
            · exact hun i j (by omega) j1 hb j2 hB' _ hv
          have hnone : (TDm s.hp.t lg (fun j => bitOf (maskOf pres i) j) ops.length).get h = s.hp.t.get h := by
            refine TDm_none hsm ops.length fun k hk hBk => ?_
            cases hlk : (lg k).lookup h with
            | none => rfl
            | some v =>
              exfalso
              have hlk' : (lg k).lookup h ≠ none := by rw [hlk]; simp
              have hkj : j ≠ k := fun e => by rw [← e, hB] at hBk; simp at hBk
              obtain ⟨k1, k2, k3⟩ := himp k h hlk'
              by_cases hBjk : bitOf (maskOf pres k) j = true
              · have := hBtr i hi k j hBk hBjk
                rw [hB] at this; simp at this
              · by_cases hBkj : bitOf (maskOf pres j) k = true
                · have h1 := hBlt j j1 k hBkj
                  have := hnx j (by omega) (k + 1) (by omega)
                  omega
                · exact hapart j k h hkj hl hlk' (by simpa using hBjk) (by simpa using hBkj)
          rw [hnone] at hh
          obtain ⟨e, _, he, _⟩ := hS.rep.has h o' hh
          have hlo' := hnx j (by omega) 0 (by omega)
          have hhi' := hnx ops.length (Nat.le_refl _) (j + 1) (by omega)
          rw [hf h (by omega) (by omega)] at he
          simp at he
      have hTup : ∀ h, (T (up D i)).get h = if h ∈ q.log then q.t.get h else (T D).get h := by
        intro h
        have hlk := logSince_lookup q q.log h
        rw [← hlq] at hlk
        by_cases hh : h ∈ q.log
        · rw [if_pos hh] at hlk ⊢
          refine TDm_last hsm ops.length hi (by simp [up]) hlk fun j h1 h2 hDj => ?_
          cases hlj : (lg j).lookup h with
          | none => rfl
          | some v =>
            exfalso
            have hDj' : D j = true := by simpa [up, show j ≠ i by omega] using hDj
            have hB' : bitOf (maskOf pres j) i = false := by
              rw [Bool.eq_false_iff]; intro hB'
              have := hcl j h2 hDj' i hB'
              rw [hDi] at this; simp at this
            have hB : bitOf (maskOf pres i) j = false := by
              rw [Bool.eq_false_iff]; intro hB
              have := hBlt i hi j hB
              omega
            exact hapart i j h (by omega) (by rw [hlk]; simp) (by rw [hlj]; simp) hB' hB
        · rw [if_neg hh] at hlk ⊢
          refine TDm_congr hsm ops.length fun j hj hl => ?_
          simp only [up]
          by_cases e : j = i
          · subst e; exact absurd hlk hl
          · rw [if_neg e]
      have hx3 : ∀ h, h ∉ q.log → q.t.get h = Hi.get h := x3
      have hrepHi : Rep E' Hi w' := ⟨fun h o' hh => hI.rep.has h o' (hsub h o' hh), fun h h' o1 o2 e e' hh hh' => hI.rep.inj h h' o1 o2 e e' (hsub _ _ hh) (hsub _ _ hh')⟩
      have hsv : SvR E' ⟨F D, s.df, ⟨Hi, (S i).hp.nx, []⟩, s.n⟩ a' w' := ⟨hI.fr, hrepHi, hI.sz, hS.n, by rw [hI.df]; exact hS.df.mono hI.le⟩
      have hfree' : Free E' (S i).hp.nx q.nx := fun h g1 g2 => hI.free h ⟨i, hi, hDi, g1, by rw [hqn]; exact g2⟩
      refine op_step hC hcall hsv hq hfree' ⟨fr', hfr', fun E'' x w'' ho' hsv' => ?_⟩
      obtain ⟨r1, r2⟩ := out_frame (T' := T (up D i)) (L := q.log) hI.rep hI.frm ho' hsub hTup hx3 fun h hh => by
        have hlk := logSince_lookup q q.log h
        rw [← hlq, if_pos hh] at hlk
        exact hsm i _ (mem_of_lookup hlk)
      have hlo0 := hnx i (by omega) 0 (by omega)
      have hhi0 := hnx ops.length (Nat.le_refl _) (i + 1) (by omega)
      refine hK E'' _ _ ⟨Env.le_trans hI.le ho'.le, fun h hh => ?_, r1, r2, hfrup hsv'.fr (hset hfr'), hsv'.sz, by rw [put_df]; exact hI.df, fun h hh => ?_⟩
      · rw [ho'.off h (by simp only; omega), hI.off h hh]
      · obtain ⟨k, g1, g2, g3, g4⟩ := hh
        simp only [up] at g2
        by_cases e : k = i
        · rw [if_pos e] at g2; simp at g2
        · rw [if_neg e] at g2
          have hE' := hI.free h ⟨k, g1, g2, g3, g4⟩
          rw [ho'.off h ?_, hE']
          simp only
          rcases Nat.lt_or_ge k i with hlt | hge
          · have := hnx i (by omega) (k + 1) (by omega); omega
          · have := hnx k (by omega) (i + 1) (by omega); omega
  -- all orders
  have hall : ∀ (fuel : Nat) (listed : Array Bool) (l : List Nat), listed.size = ops.length → l.Nodup → (∀ j, j < ops.length → (listed.getD j false = false ↔ j ∈ l)) → l.length ≤ fuel → (∀ j ∈ l, j < ops.length) → Cl (fun j => listed.getD j false) →
      ∀ E' a' w', DInv E s a w d'.hp.nx (T fun j => listed.getD j false) (F fun j => listed.getD j false) (und fun j => listed.getD j false) E' a' w' → wpAny P .any ops.toArray (Post E s w .norm ⟨d'.fr, s.df, d'.hp, s.n⟩) fuel listed a' w' := by
    have hdone : ∀ (listed : Array Bool), (∀ j, j < ops.length → listed.getD j false = true) → ∀ E' a' w', DInv E s a w d'.hp.nx (T fun j => listed.getD j false) (F fun j => listed.getD j false) (und fun j => listed.getD j false) E' a' w' → Post E s w .norm ⟨d'.fr, s.df, d'.hp, s.n⟩ .normal a' w' := by
      intro listed hl E' a' w' hI
      have ht : ∀ h, (T fun j => listed.getD j false).get h = d'.hp.t.get h := fun h => by
        rw [← SN, hmem ops.length (Nat.le_refl _)]
        exact TDm_congr hsm ops.length fun j hj _ => hl j hj
      have hfr : ∀ t, (F fun j => listed.getD j false).get t = d'.fr.get t := fun t => by
        rw [← SN, hframe ops.length (Nat.le_refl _)]
        exact FT_congr hdsm ops.length fun j hj _ => hl j hj
      exact ⟨E', trivial, ⟨hI.le, hI.off, rep_congr ht hI.rep, frm_congr ht hI.frm⟩, ⟨⟨fun t v hv => hI.fr.look t v (by rw [hfr]; exact hv), hI.fr.gl⟩, rep_congr ht hI.rep, hI.sz, hS.n, by rw [hI.df]; exact hS.df.mono hI.le⟩⟩
    have hready : ∀ (listed : Array Bool), listed.size = ops.length → ∀ i, i ∈ Region.ready .any ops.toArray listed → ∃ o, ops[i]? = some o ∧ listed.getD i false = false ∧ ∀ e ∈ o.after, Region.binds .any e = true → listed.getD e.on false = true := by
      intro listed hsz i hi
      obtain ⟨g1, o, g2, g3⟩ := mem_ready.1 hi
      have : ops[i]? = some o := by simpa using g2
      refine ⟨o, this, ?_, g3⟩
      have hlt : i < listed.size := by rw [hsz]; exact hin this
      simp [hlt] at g1 ⊢
      exact g1
    have hsome : ∀ (listed : Array Bool), listed.size = ops.length → (∃ j, j < ops.length ∧ listed.getD j false = false) → Region.ready .any ops.toArray listed ≠ [] := by
      intro listed hsz ⟨j, hj, hjf⟩ hnil
      have hmin : ∀ j, j < ops.length → listed.getD j false = false → False := by
        intro j
        induction j using Nat.strongRecOn with
        | _ j ih =>
          intro hj hjf
          obtain ⟨o, ho⟩ := hget j hj
          have hb := (hed j o ho).1
          unfold edgeB at hb
          rw [allL_iff] at hb
          have : j ∈ Region.ready .any ops.toArray listed := by
            refine mem_ready.2 ⟨?_, o, by simpa using ho, fun e he hbe => ?_⟩
            · have hlt : j < listed.size := by rw [hsz]; exact hj
              simp [hlt] at hjf ⊢
              exact hjf
            · have hlt : e.on < j := by have := hb e (by simpa using he); rw [hbe] at this; simpa [Nat.blt_eq] using this
              cases hh : listed.getD e.on false with
              | true => rfl
              | false => exact (ih e.on hlt (by omega) hh).elim
          rw [hnil] at this
          simp at this
      exact hmin j hj hjf
    intro fuel
    induction fuel with
    | zero =>
      intro listed l hsz hnd hl hlen' hlb hcl E' a' w' hI
      have hl0 : l = [] := by simpa using hlen'
      subst hl0
      have hd : ∀ j, j < ops.length → listed.getD j false = true := fun j hj => by
        have := hl j hj
        simpa using this
      refine ⟨?_, hdone listed hd E' a' w' hI⟩
      apply List.eq_nil_iff_forall_not_mem.2
      intro i hi
      obtain ⟨o, ho, g, _⟩ := hready listed hsz i hi
      rw [hd i (hin ho)] at g
      simp at g
    | succ fuel ih =>
      intro listed l hsz hnd hl hlen' hlb hcl E' a' w' hI
      refine ⟨fun hnil => ?_, fun i hi => ?_⟩
      · refine hdone listed (fun j hj => ?_) E' a' w' hI
        cases hh : listed.getD j false with
        | true => rfl
        | false => exact absurd hnil (hsome listed hsz ⟨j, hj, hh⟩)
      · obtain ⟨o, ho, g1, g2⟩ := hready listed hsz i hi
        have hiN := hin ho
        have hBi : ∀ j, bitOf (maskOf pres i) j = true → listed.getD j false = true := fun j hB => by
          obtain ⟨e, he, hbe, hlt, hj⟩ := (hM i o ho j).1 hB
          have hdn := g2 e (by simpa using he) hbe
          rcases hj with rfl | hj
          · exact hdn
          · exact hcl e.on (by omega) hdn j hj
        refine hstep (fun j => listed.getD j false) i o hcl ho g1 hBi E' a' w' hI _ _ fun E'' a'' w'' hI' => ?_
        have hup : (up (fun j => listed.getD j false) i) = fun j => (listed.setIfInBounds i true).getD j false := by
          funext j
          simp only [up]
          by_cases e : j = i
          · subst e
            have hlt : j < listed.size := by rw [hsz]; exact hiN
            simp [hlt]
          · rw [if_neg e, getD_set_ne false (fun h => e h.symm)]
        rw [hup] at hI'
        refine ih (listed.setIfInBounds i true) (l.erase i) (by simp [hsz]) (hnd.erase i) (fun j hj => ?_) ?_ (fun j hj => hlb j (List.mem_of_mem_erase hj)) ?_ E'' a'' w'' hI'
        · have e0 := congrFun hup j
          simp only [up] at e0
          rw [← e0]
          by_cases e : j = i
          · subst e
            rw [if_pos rfl]
            simp only [Bool.true_eq_false, false_iff]
            exact fun h => (hnd.mem_erase_iff.1 h).1 rfl
          · rw [if_neg e, hnd.mem_erase_iff, hl j hj]
            simp [e]
        · have : i ∈ l := (hl i hiN).1 g1
          rw [List.length_erase_of_mem this]
          omega
        · rw [← hup]
          exact hclup _ i o hcl ho hBi
  refine wp_region_any hC.mo ?_
  have hsz0 : (ops.toArray).size = ops.length := by simp
  rw [hsz0]
  have hrep : ∀ j, (Array.replicate ops.length false).getD j false = false := fun j => by
    simp only [Array.getD_eq_getD_getElem?, Array.getElem?_replicate]
    split <;> rfl
  refine hall ops.length (Array.replicate ops.length false) (List.range ops.length) (by simp) List.nodup_range (fun j hj => ?_) (by simp) (fun j hj => by simpa using hj) (fun k hk hD => ?_) E a { w with drawn := w.drawn + 1 } ?_
  · rw [hrep]; simpa using hj
  · simp only [hrep] at hD; simp at hD
  · have e0 : (fun j => (Array.replicate ops.length false).getD j false) = fun _ => false := funext hrep
    rw [e0]
    have eT : T (fun _ => false) = s.hp.t := TDm_out hsm (m := 0) ops.length (by omega) (fun _ _ => rfl)
    have eF : ∀ t, (F fun _ => false).get t = s.fr.get t := fun t => FT_out hdsm (m := 0) ops.length (by omega) (fun _ _ => rfl) t
    refine ⟨Env.le_refl E, fun _ _ => rfl, by rw [eT]; exact hS.rep.same rfl, by rw [eT]; exact ⟨rfl, rfl, rfl, Nat.le_refl _, fun _ _ _ => rfl, fun h o e h1 h2 hr => .inl ⟨h, o, e, h1, h2, hr, rfl⟩⟩, ⟨fun t v hv => hS.fr.look t v (by rw [← eF]; exact hv), hS.fr.gl⟩, hS.sz, rfl, fun h hh => ?_⟩
    obtain ⟨i, g1, _, g3, g4⟩ := hh
    have hlo' := hnx i (by omega) 0 (by omega)
    have hhi' := hnx ops.length (Nat.le_refl _) (i + 1) (by omega)
    exact hf h (by omega) (by omega)
end
/- Vfp: a region that draws, in which one operation panics and the others only look. By this project. -/
section
variable {C : Cx} {call : CallF} {n : Nat} {ops : List Oper} {hp : Hp} {pres : Tr Nat}
def QFact (C : Cx) (call : CallF) (n : Nat) (ops : List Oper) (hp : Hp) (o : Oper) (fr fr' : Tr V) (v : V) : Prop :=
 setD n fr o.dst v = some fr' ∧ ((wantV ops fr o = some false ∧ v = undV) ∨ (wantV ops fr o = some true ∧ vpure C fr o.op = some v) ∨
  (wantV ops fr o = some true ∧ ∃ R q, vop C call fr ⟨subHp hp.t R, hp.nx, []⟩ o.op = some (.v v, q) ∧ q.log = [] ∧ q.nx = hp.nx))
theorem vq1_fact {o : Oper} {fr fr' : Tr V} (h : vq1 C call n ops hp o fr = some fr') : ∃ v, QFact C call n ops hp o fr fr' v := by
 simp only [vq1, Option.bind_eq_some_iff] at h
 obtain ⟨b, hb, h⟩ := h
 split at h
 ·exact ⟨undV, h, .inl ⟨hb, rfl⟩⟩
 ·split at h
  ·simp only [Option.bind_eq_some_iff] at h
   obtain ⟨v, hv, h⟩ := h
   exact ⟨v, h, .inr (.inl ⟨hb, hv⟩)⟩
  ·simp only [Option.bind_eq_some_iff] at h
   obtain ⟨vR, hvR, h⟩ := h
   unfold rdTry at hvR
   split at hvR
   ·simp at hvR
   ·split at hvR
    ·simp at hvR
    ·simp only [Option.bind_eq_some_iff] at hvR
     obtain ⟨⟨r, q⟩, hq, hvR⟩ := hvR
     split at hvR
     ·rename_i v e1 e2 e3
      simp only at e1 e2 e3
      subst e1
      simp only [Option.some.injEq] at hvR
      subst hvR
      exact ⟨v, h, .inr (.inr ⟨hb, _, q, hq, e2, Nat.eq_of_beq_eq_true e3⟩)⟩
     ·simp at hvR
theorem vqrest_states {p : Nat} : ∀ {r : List Oper} {i : Nat} {fr : Tr V}, vqrest C call n ops hp pres p r i fr = true → ∃ S : Nat → Tr V, S 0 = fr ∧ ∀ k o, r[k]? = some o → (bitOf (maskOf pres (i + k)) p = true ∧ S (k + 1) = S k) ∨ (bitOf (maskOf pres (i + k)) p = false ∧ vq1 C call n ops hp o (S k) = some (S (k + 1)))
 | [], i, fr, h => ⟨fun _ => fr, rfl, fun k o ho => by simp at ho⟩
 | q :: r, i, fr, h => by
  unfold vqrest at h
  split at h
  ·rename_i hb
   obtain ⟨S, s1, s2⟩ := vqrest_states h
   refine ⟨fun k => match k with | 0 => fr | k + 1 => S k, rfl, fun k o ho => ?_⟩
   cases k with
   | zero => exact .inl ⟨hb, s1⟩
   | succ k =>
    have := s2 k o (by simpa using ho)
    rwa [show i + 1 + k = i + (k + 1) by omega] at this
  ·rename_i hb
   split at h
   ·rename_i fr' hq
    obtain ⟨S, s1, s2⟩ := vqrest_states h
    refine ⟨fun k => match k with | 0 => fr | k + 1 => S k, rfl, fun k o ho => ?_⟩
    cases k with
    | zero =>
     simp only [List.getElem?_cons_zero, Option.some.injEq] at ho
     subst ho
     exact .inr ⟨hb, by simp only [s1]; exact hq⟩
    | succ k =>
     have := s2 k o (by simpa using ho)
     rwa [show i + 1 + k = i + (k + 1) by omega] at this
   ·simp at h
theorem vdpan_states : ∀ {r : List Oper} {i : Nat} {fr : Tr V} {x : V} {q : Hp}, vdpan C call n ops hp pres r i fr = some (x, q) → ∃ (p : Nat) (op : Oper) (S : Nat → Tr V) (qq : Hp), r[p]? = some op ∧ S 0 = fr ∧
  (∀ k o, r[k]? = some o → (k < p ∧ vq1 C call n ops hp o (S k) = some (S (k + 1))) ∨ (k = p ∧ S (k + 1) = S k) ∨ (p < k ∧ bitOf (maskOf pres (i + k)) (i + p) = true ∧ S (k + 1) = S k) ∨ (p < k ∧ bitOf (maskOf pres (i + k)) (i + p) = false ∧ vq1 C call n ops hp o (S k) = some (S (k + 1)))) ∧
  wantV ops (S p) op = some true ∧ isPure op.op = false ∧ vop C call (S p) ⟨hp.t, hp.nx, []⟩ op.op = some (.pan x, qq) ∧ q = ⟨qq.t, qq.nx, qq.log ++ hp.log⟩
 | [], i, fr, x, q, h => by simp [vdpan] at h
 | o :: r, i, fr, x, q, h => by
  unfold vdpan at h
  split at h
  ·rename_i fr' hq
   obtain ⟨p, op, S, qq, h1, h2, h3, h4, h5, h6, h7⟩ := vdpan_states h
   refine ⟨p + 1, op, fun k => match k with | 0 => fr | k + 1 => S k, qq, by simpa using h1, rfl, fun k o' ho => ?_, h4, h5, h6, h7⟩
   cases k with
   | zero =>
    simp only [List.getElem?_cons_zero, Option.some.injEq] at ho
    subst ho
    exact .inl ⟨by omega, by simp only [h2]; exact hq⟩
   | succ k =>
    have := h3 k o' (by simpa using ho)
    rw [show i + 1 + k = i + (k + 1) by omega, show i + 1 + p = i + (p + 1) by omega] at this
    rcases this with ⟨a, b⟩ | ⟨a, b⟩ | ⟨a, b, c⟩ | ⟨a, b, c⟩
    ·exact .inl ⟨by omega, b⟩
    ·exact .inr (.inl ⟨by omega, b⟩)
    ·exact .inr (.inr (.inl ⟨by omega, b, c⟩))
    ·exact .inr (.inr (.inr ⟨by omega, b, c⟩))
  ·rename_i hq
   simp only [Option.bind_eq_some_iff] at h
   obtain ⟨b, hb, h⟩ := h
   split at h
   ·simp at h
   ·split at h
    ·simp at h
    ·rename_i hp'
     simp only [Option.bind_eq_some_iff] at h
     obtain ⟨⟨rr, qq⟩, hv, h⟩ := h
     split at h
     ·simp at h
     ·rename_i x' hx
      simp only at hx
      subst hx
      split at h
      ·rename_i hr
       simp only [Option.some.injEq, Prod.mk.injEq] at h
       obtain ⟨rfl, rfl⟩ := h
       obtain ⟨S, s1, s2⟩ := vqrest_states hr
       refine ⟨0, o, fun k => match k with | 0 => fr | k + 1 => S k, qq, rfl, rfl, fun k o' ho => ?_, hb, by simpa using hp', hv, rfl⟩
       cases k with
       | zero => exact .inr (.inl ⟨rfl, s1⟩)
       | succ k =>
        have := s2 k o' (by simpa using ho)
        rw [show i + 1 + k = i + (k + 1) by omega] at this
        rcases this with ⟨a, b⟩ | ⟨a, b⟩
        ·exact .inr (.inr (.inl ⟨by omega, a, b⟩))
        ·exact .inr (.inr (.inr ⟨by omega, a, b⟩))
      ·simp at h
end
theorem vdpan_ext {C : Cx} {call : CallF} {n : Nat} {ops : List Oper} {hp : Hp} {pres : Tr Nat} (hcall : NxOk call) {r : List Oper} {i : Nat} {fr : Tr V} {x : V} {q : Hp} (h : vdpan C call n ops hp pres r i fr = some (x, q)) : Ext hp q := by
 obtain ⟨p, op, S, qq, _, _, _, _, _, hv, rfl⟩ := vdpan_states h
 obtain ⟨h1, l, h2, h3⟩ := vop_nx hcall hv
 simp only [List.append_nil] at h2
 exact ⟨h1, qq.log, rfl, fun h hh => h3 h (by rw [← h2]; exact hh)⟩
theorem clearD_get : ∀ (ops : List Oper) (t : Tr V) (x : Nat) (v : V), (clearD ops t).get x = some v → t.get x = some v ∧ ∀ o ∈ ops, o.dst ≠ some x
 | [], t, x, v, h => ⟨h, fun o ho => by simp at ho⟩
 | o :: r, t, x, v, h => by
  unfold clearD at h
  split at h
  ·rename_i d hd
   rw [Tr.get_set] at h
   split at h
   ·simp at h
   ·rename_i hne
    obtain ⟨h1, h2⟩ := clearD_get r t x v h
    refine ⟨h1, fun o' ho => ?_⟩
    rcases List.mem_cons.1 ho with rfl | ho
    ·rw [hd]
     exact fun e => hne (Option.some.inj e).symm
    ·exact h2 o' ho
  ·rename_i hd
   obtain ⟨h1, h2⟩ := clearD_get r t x v h
   refine ⟨h1, fun o' ho => ?_⟩
   rcases List.mem_cons.1 ho with rfl | ho
   ·rw [hd]; simp
   ·exact h2 o' ho
section
variable {P : Program} {C : Cx} (hC : COk P C) {call : CallF} (hcall : CallOk P call)
include hC hcall
set_option maxHeartbeats 4000000 in
theorem vdpan_ok {id : Nat} {ops : List Oper} {s : Sv} {x : V} {q : Hp} (hchk : (apartAll ops (preAll ops 0 .lf) ops 0 [] && edgesOk (preAll ops 0 .lf) ops 0) = true)
  (h1 : vdpan C call s.n ops s.hp (preAll ops 0 .lf) ops 0 s.fr = some (x, q)) {E : Env} {a : Act} {w : World} (hS : SvR E s a w) (hf : Free E s.hp.nx q.nx) :
  (Code.region id ops.toArray true).wp P (Post E s w (.pan x) ⟨clearD ops s.fr, s.df, q, s.n⟩) a w := by
 simp only [Bool.and_eq_true] at hchk
 obtain ⟨hap, hed⟩ := hchk
 have hed := edgesOk_spec hed
 have hap := apartAll_spec hap
 simp only [Nat.zero_add] at hed hap
 obtain ⟨p, op, S, qq, hop, S0, hSt, hpw, hpp, hpv, rfl⟩ := vdpan_states h1
 simp only [Nat.zero_add] at hSt
 have hlen : ops.length ≤ trMax := by
  rcases Nat.eq_zero_or_pos ops.length with h0 | h0
  ·omega
  ·have := (hed (ops.length - 1) _ (List.getElem?_eq_getElem (by omega))).2.2.2
   unfold trMax
   omega
 have hpre := (preAll_spec ops 0 .lf (by omega)).2
 simp only [Nat.zero_add] at hpre
 -- what is ahead of what
 have hM : ∀ i o, ops[i]? = some o → ∀ j, bitOf (maskOf (preAll ops 0 .lf) i) j = true ↔ ∃ e ∈ o.after.toList, Region.binds .any e = true ∧ e.on < i ∧ (j = e.on ∨ bitOf (maskOf (preAll ops 0 .lf) e.on) j = true) := by
  intro i o ho j
  obtain ⟨acc, g1, g2⟩ := hpre i o ho
  have hm : maskOf (preAll ops 0 .lf) i = preMask acc o.after.toList 0 := by unfold maskOf; rw [g1]
  have hb := (hed i o ho).1
  unfold edgeB at hb
  rw [allL_iff] at hb
  rw [hm, preMask_bit, bit_zero]
  simp only [Bool.false_eq_true, false_or]
  constructor
  ·rintro ⟨e, he, hbe, hj⟩
   have hlt : e.on < i := by have := hb e he; rw [hbe] at this; simpa [Nat.blt_eq] using this
   refine ⟨e, he, hbe, hlt, ?_⟩
   unfold maskOf at hj ⊢
   rw [g2 e.on hlt] at hj
   exact hj
  ·rintro ⟨e, he, hbe, hlt, hj⟩
   refine ⟨e, he, hbe, ?_⟩
   unfold maskOf at hj ⊢
   rw [g2 e.on hlt]
   exact hj
 generalize hpres : preAll ops 0 .lf = pres at *
 have hget : ∀ i, i < ops.length → ∃ o, ops[i]? = some o := fun i hi => ⟨_, List.getElem?_eq_getElem hi⟩
 have hin : ∀ {i : Nat} {o : Oper}, ops[i]? = some o → i < ops.length := fun h => (List.getElem?_eq_some_iff.1 h).1
 have hBlt : ∀ i, i < ops.length → ∀ j, bitOf (maskOf pres i) j = true → j < i := by
  intro i
  induction i using Nat.strongRecOn with
  | _ i ih =>
   intro hi j hj
   obtain ⟨o, ho⟩ := hget i hi
   obtain ⟨e, _, _, hlt, h⟩ := (hM i o ho j).1 hj
   rcases h with rfl | h
   ·exact hlt
   ·have := ih e.on hlt (by omega) j h
    omega
 have hpl : p < ops.length := hin hop
 let actB : Nat → Bool := fun k => decide (k ≠ p) && !bitOf (maskOf pres k) p
 have hfact : ∀ k, ∃ v, ∀ o, ops[k]? = some o → (actB k = true → QFact C call s.n ops s.hp o (S k) (S (k + 1)) v) ∧ (actB k = false → S (k + 1) = S k) := fun k => by
  rcases Nat.lt_or_ge k ops.length with hk | hk
  ·obtain ⟨o, ho⟩ := hget k hk
   have one : ∀ {v : V}, ((actB k = true → QFact C call s.n ops s.hp o (S k) (S (k + 1)) v) ∧ (actB k = false → S (k + 1) = S k)) → ∃ v, ∀ o, ops[k]? = some o → (actB k = true → QFact C call s.n ops s.hp o (S k) (S (k + 1)) v) ∧ (actB k = false → S (k + 1) = S k) := fun {v} h => ⟨v, fun o' ho' => by
    rw [ho] at ho'
    obtain rfl := Option.some.inj ho'
    exact h⟩
   rcases hSt k o ho with ⟨e, h⟩ | ⟨e, h⟩ | ⟨e, hb, h⟩ | ⟨e, hb, h⟩
   ·obtain ⟨v, hv⟩ := vq1_fact h
    refine one (v := v) ⟨fun _ => hv, fun hx => ?_⟩
    exfalso
    have hb : bitOf (maskOf pres k) p = false := by
     rw [Bool.eq_false_iff]
     intro hb
     have := hBlt k hk p hb
     omega
    simp only [actB, hb, Bool.not_false, Bool.and_true, decide_eq_false_iff_not, Decidable.not_not] at hx
    omega
   ·refine one (v := undV) ⟨fun hx => ?_, fun _ => h⟩
    simp [actB, e] at hx
   ·refine one (v := undV) ⟨fun hx => ?_, fun _ => h⟩
    simp [actB, hb] at hx
   ·obtain ⟨v, hv⟩ := vq1_fact h
    refine one (v := v) ⟨fun _ => hv, fun hx => ?_⟩
    exfalso
    simp only [actB, hb, Bool.not_false, Bool.and_true, decide_eq_false_iff_not, Decidable.not_not] at hx
    omega
  ·exact ⟨undV, fun o ho => by have := hin ho; omega⟩
 obtain ⟨vs, hX⟩ := Classical.skolem.1 hfact
 let ds : Nat → Option Tmp := fun k => if actB k = true then (ops[k]?).bind (·.dst) else none
 have hds : ∀ j oj t, ops[j]? = some oj → ds j = some t → actB j = true ∧ oj.dst = some t := fun j oj t hoj h => by
  simp only [ds] at h
  split at h
  ·rename_i hac
   exact ⟨hac, by simpa only [hoj, Option.bind_some] using h⟩
  ·simp at h
 have hdsm : ∀ k d, ds k = some d → d < trMax := fun k d hd => by
  rcases Nat.lt_or_ge k ops.length with hk | hk
  ·obtain ⟨o, ho⟩ := hget k hk
   obtain ⟨hac, hdo⟩ := hds k o d ho hd
   have := ((hX k o ho).1 hac).1
   rw [hdo] at this
   simp only [setD] at this
   split at this
   ·rename_i hb
    have hdlt : d < s.n := by simpa [Nat.blt_eq] using hb
    exact Nat.lt_of_lt_of_le hdlt hS.n
   ·simp at this
  ·simp only [ds, List.getElem?_eq_none hk, Option.bind_none] at hd
   split at hd <;> simp at hd
 have hframe : ∀ k, k ≤ ops.length → ∀ t, (S k).get t = (FT s.fr ds vs (fun _ => true) k).get t := by
  intro k
  induction k with
  | zero => intro _ t; rw [S0]; rfl
  | succ k ih =>
   intro hk t
   obtain ⟨o, ho⟩ := hget k (by omega)
   rw [FT_succ hdsm, ← ih (by omega)]
   cases hac : actB k with
   | false =>
    have hd : ds k = none := by simp only [ds, hac]; rfl
    rw [(hX k o ho).2 hac, hd, if_neg (by simp)]
   | true =>
    have hd : ds k = o.dst := by simp only [ds, hac, if_true, ho, Option.bind_some]
    have h0 := ((hX k o ho).1 hac).1
    cases hdo : o.dst with
    | none =>
     rw [hdo] at h0 hd
     simp only [setD, Option.some.injEq] at h0
     rw [← h0, hd, if_neg (by simp)]
    | some d =>
     rw [hdo] at h0 hd
     simp only [setD] at h0
     split at h0
     ·simp only [Option.some.injEq] at h0
      rw [← h0, hd, Tr.get_set _ _ _]
      by_cases e : t = d
      ·subst e; rw [if_pos rfl, if_pos ⟨rfl, rfl⟩]
      ·rw [if_neg e, if_neg (fun h => e (Option.some.inj h.2).symm)]
     ·simp at h0
 have hlook : ∀ (D : Nat → Bool), (∀ k, k < ops.length → D k = true → ∀ j, bitOf (maskOf pres k) j = true → D j = true) → ∀ i o, ops[i]? = some o → D i = false → (∀ j, bitOf (maskOf pres i) j = true → D j = true) →
   ∀ t, (sameDst (some t) (guardT ops o) = true ∨ ∃ x ∈ o.op.operands.toList, x = .tmp t) → (S i).get t = (FT s.fr ds vs D ops.length).get t := by
  intro D hcl i o ho hDi hBi t ht
  rw [hframe i (by have := hin ho; omega)]
  rw [show (FT s.fr ds vs (fun _ => true) i).get t = (FT s.fr ds vs (fun j => decide (j < i)) i).get t from FT_congr hdsm i fun j hj _ => by simp [hj]]
  rw [← FT_out hdsm (m := i) ops.length (by have := hin ho; omega) (fun j hj => by simp; omega) t]
  refine FT_congr hdsm ops.length fun j hj hdj => ?_
  obtain ⟨oj, hoj⟩ := hget j hj
  have hdo : oj.dst = some t := (hds j oj t hoj hdj).2
  rcases Nat.lt_trichotomy j i with h | h | h
  ·have h2 := (hap i o ho).2 j oj h hoj
   have hB : bitOf (maskOf pres i) j = true := by
    unfold apartB at h2
    split at h2
    ·assumption
    ·exfalso
     split at h2
     ·simp at h2
     ·rename_i hno
      simp only [Bool.or_eq_false_iff] at hno
      rcases ht with ht | ⟨x, hx, rfl⟩
      ·rw [hdo, ht] at hno; simp at hno
      ·have := hno.1.1.1.2
       rw [Bool.eq_false_iff] at this
       exact this (anyL_iff.2 ⟨_, hx, sameTmp_iff.2 ⟨t, hdo, rfl⟩⟩)
   rw [hBi j hB]
   simp [h]
  ·subst h
   rw [hDi]; simp
  ·have h2 := (hap j oj hoj).2 i o h ho
   have hB : bitOf (maskOf pres j) i = true := by
    unfold apartB at h2
    split at h2
    ·assumption
    ·exfalso
     split at h2
     ·simp at h2
     ·rename_i hno
      simp only [Bool.or_eq_false_iff] at hno
      rcases ht with ht | ⟨x, hx, rfl⟩
      ·have := hno.2; rw [hdo, ht] at this; simp at this
      ·have := hno.1.1.2
       rw [Bool.eq_false_iff] at this
       exact this (anyL_iff.2 ⟨_, hx, sameTmp_iff.2 ⟨t, hdo, rfl⟩⟩)
   have hDj : D j = false := by
    rw [Bool.eq_false_iff]; intro hDj
    have := hcl j hj hDj i hB
    rw [hDi] at this; simp at this
   rw [hDj]
   simp; omega
 let F : (Nat → Bool) → Tr V := fun D => FT s.fr ds vs D ops.length
 let Cl : (Nat → Bool) → Prop := fun D => ∀ k, k < ops.length → D k = true → ∀ j, bitOf (maskOf pres k) j = true → D j = true
 let up : (Nat → Bool) → Nat → Nat → Bool := fun D i j => if j = i then true else D j
 -- the frame behind one more
 have hFup : ∀ D i o, Cl D → ops[i]? = some o → actB i = true → D i = false → ∀ t, (F (up D i)).get t = if o.dst = some t then some (vs i) else (F D).get t := by
  intro D i o hcl ho hac hDi t
  by_cases hd : o.dst = some t
  ·rw [if_pos hd]
   refine FT_last hdsm ops.length (hin ho) (by simp [up]) (by simp only [ds, hac, if_true, ho, Option.bind_some]; exact hd) fun j h1 h2 hDj hdj => ?_
   obtain ⟨oj, hoj⟩ := hget j h2
   have hdo : oj.dst = some t := (hds j oj t hoj hdj).2
   have hDj' : D j = true := by simpa [up, show j ≠ i by omega] using hDj
   have h3 := (hap j oj hoj).2 i o h1 ho
   unfold apartB at h3
   split at h3
   ·rename_i hB
    have := hcl j h2 hDj' i hB
    rw [hDi] at this; simp at this
   ·split at h3
    ·simp at h3
    ·rename_i hno
     simp only [Bool.or_eq_false_iff] at hno
     have := hno.1.1.1.1
     rw [hd, hdo] at this
     simp [sameDst] at this
  ·rw [if_neg hd]
   refine FT_congr hdsm ops.length fun j hj hdj => ?_
   simp only [up]
   by_cases e : j = i
   ·subst e
    exact absurd (hds j o t ho hdj).2 hd
   ·rw [if_neg e]
 have hclup : ∀ D i o, Cl D → ops[i]? = some o → (∀ j, bitOf (maskOf pres i) j = true → D j = true) → Cl (up D i) := by
  intro D i o hcl ho hBi k hk hDk j hB
  simp only [up] at hDk ⊢
  by_cases e : j = i
  ·rw [if_pos e]
  ·rw [if_neg e]
   by_cases e' : k = i
   ·subst e'; exact hBi j hB
   ·rw [if_neg e'] at hDk
    exact hcl k hk hDk j hB
 have hwant : ∀ D i o, Cl D → ops[i]? = some o → D i = false → (∀ j, bitOf (maskOf pres i) j = true → D j = true) → wantV ops (S i) o = wantV ops (F D) o := by
  intro D i o hcl ho hDi hBi
  unfold wantV
  cases hg : o.guard with
  | none => rfl
  | some jt =>
   obtain ⟨j, t⟩ := jt
   simp only
   cases hoj : getL ops j with
   | none => rfl
   | some oj =>
    simp only [Option.bind_some]
    cases hd : oj.dst with
    | none => rfl
    | some d =>
     simp only [Option.bind_some]
     rw [hlook D hcl i o ho hDi hBi d (.inl (sameDst_iff.2 ⟨d, rfl, by unfold guardT; rw [hg]; simp only [hoj, Option.bind_some, hd]⟩))]
 have hops : ∀ D i o, Cl D → ops[i]? = some o → D i = false → (∀ j, bitOf (maskOf pres i) j = true → D j = true) → ∀ x ∈ o.op.operands.toList, evV (S i) x = evV (F D) x := by
  intro D i o hcl ho hDi hBi x hx
  exact evV_congr fun t hxt => hlook D hcl i o ho hDi hBi t (.inr ⟨x, hx, hxt⟩)
 let I : (Nat → Bool) → Act → World → Prop := fun D a' w' => Rep E s.hp.t w' ∧ Frm E s.hp.t w E s.hp.t w' ∧ FrR E (F D) a' ∧ a'.tmps.size = s.n ∧ a'.defers = a.defers
 have hstep : ∀ D i o, Cl D → ops[i]? = some o → actB i = true → D i = false → (∀ j, bitOf (maskOf pres i) j = true → D j = true) → ∀ a' w', I D a' w' → ∀ K Q, (∀ a'' w'', I (up D i) a'' w'' → K a'' w'') → wpOp P ops.toArray Q i K a' w' := by
  intro D i o hcl ho hac hDi hBi a' w' hI K Q hK
  obtain ⟨i1, i2, i3, i4, i5⟩ := hI
  unfold wpOp
  simp only [List.getElem?_toArray, ho]
  obtain ⟨hset0, hcase⟩ := (hX i o ho).1 hac
  have hset : ∀ {fr' : Tr V}, setD s.n (F D) o.dst (vs i) = some fr' → ∀ t, fr'.get t = if o.dst = some t then some (vs i) else (F D).get t := by
   intro fr' h t
   cases hdo : o.dst with
   | none =>
    rw [hdo] at h
    simp only [setD, Option.some.injEq] at h
    rw [← h, if_neg (by simp)]
   | some d =>
    rw [hdo] at h
    simp only [setD] at h
    split at h
    ·simp only [Option.some.injEq] at h
     rw [← h, Tr.get_set _ _ _]
     by_cases e : t = d
     ·subst e; rw [if_pos rfl, if_pos rfl]
     ·rw [if_neg e, if_neg (fun h => e (Option.some.inj h).symm)]
    ·simp at h
  have hset2 : ∃ fr', setD s.n (F D) o.dst (vs i) = some fr' := by
   cases hdo : o.dst with
   | none => exact ⟨_, rfl⟩
   | some d =>
    rw [hdo] at hset0
    simp only [setD] at hset0 ⊢
    split at hset0
    ·rename_i hb; first | exact ⟨_, rfl⟩ | (rw [hb]; exact ⟨_, rfl⟩)
    ·simp at hset0
  obtain ⟨fr', hfr'⟩ := hset2
  have hfrup : ∀ {a'' : Act}, FrR E fr' a'' → FrR E (F (up D i)) a'' := fun {a''} hfr =>
   ⟨fun t v hv => by rw [hFup D i o hcl ho hac hDi] at hv; exact hfr.look t v (by rw [hset hfr']; exact hv), hfr.gl⟩
  have hw := hwant D i o hcl ho hDi hBi
  have hfin : ∀ x, ren E (vs i) = some x → K (a'.put o.dst x) w' := fun x hx =>
   hK _ _ ⟨i1, i2, hfrup (i3.put hS.n i4 hfr' hx), by rw [put_size]; exact i4, by rw [put_df]; exact i5⟩
  rcases hcase with ⟨k1, k2⟩ | ⟨k1, k3⟩ | ⟨k1, R, q, hq, hql, hqn⟩
  ·rw [hw] at k1
   rw [want_ok i3 k1]
   simp only [Bool.false_eq_true, if_false]
   exact hfin undef (by rw [k2]; rfl)
  ·rw [hw] at k1
   rw [want_ok i3 k1]
   simp only [if_true]
   rw [(vop_congr (C := C) (call := call) (hp := s.hp) (hops D i o hcl ho hDi hBi)).2] at k3
   obtain ⟨dst, op, ty, ps, af, gd⟩ := o
   obtain ⟨x, q1, q2⟩ := vpure_ok hC i3 k3 dst ty ps af gd
   left
   unfold Oper.wp
   rw [q2 w']
   exact hfin x q1
  ·rw [hw] at k1
   rw [want_ok i3 k1]
   simp only [if_true]
   left
   rw [(vop_congr (hops D i o hcl ho hDi hBi)).1] at hq
   obtain ⟨_, lq, x2, x3⟩ := vop_nx hcall.nx hq
   simp only [List.append_nil] at x2
   rw [hql] at x2
   subst x2
   have hsub : ∀ h o', (subHp s.hp.t R).get h = some o' → s.hp.t.get h = some o' := fun h o' hh => (subHp_get hh).2
   have hrepHi : Rep E (subHp s.hp.t R) w' := ⟨fun h o' hh => i1.has h o' (hsub h o' hh), fun h h' o1 o2 e e' hh hh' => i1.inj h h' o1 o2 e e' (hsub _ _ hh) (hsub _ _ hh')⟩
   have hsv : SvR E ⟨F D, s.df, ⟨subHp s.hp.t R, s.hp.nx, []⟩, s.n⟩ a' w' := ⟨i3, hrepHi, i4, hS.n, by rw [i5]; exact hS.df⟩
   have hfree' : Free E s.hp.nx q.nx := fun h g1 g2 => by omega
   refine op_step hC hcall hsv hq hfree' ⟨fr', hfr', fun E'' x w'' ho' hsv' => ?_⟩
   obtain rfl : E'' = E := funext fun h => ho'.off h (by simp only; omega)
   obtain ⟨r1, r2⟩ := out_frame (T' := s.hp.t) (L := []) i1 i2 ho' hsub (fun h => by simp) (fun h _ => x3 h (by simp)) fun h hh => by simp at hh
   exact hK _ _ ⟨r1, r2, hfrup hsv'.fr, hsv'.sz, by rw [put_df]; exact i5⟩
 -- the one that panics
 have hpan : ∀ D, Cl D → D p = false → (∀ j, bitOf (maskOf pres p) j = true → D j = true) → ∀ a' w', I D a' w' → ∀ K, wpOp P ops.toArray (Post E s w (.pan x) ⟨clearD ops s.fr, s.df, ⟨qq.t, qq.nx, qq.log ++ s.hp.log⟩, s.n⟩) p K a' w' := by
  intro D hcl hDp hBp a' w' hI K
  obtain ⟨i1, i2, i3, i4, i5⟩ := hI
  unfold wpOp
  simp only [List.getElem?_toArray, hop]
  have hw := hwant D p op hcl hop hDp hBp
  rw [hw] at hpw
  rw [want_ok i3 hpw]
  simp only [if_true]
  left
  rw [(vop_congr (hops D p op hcl hop hDp hBp)).1] at hpv
  have hext := vop_nx hcall.nx hpv
  have hsv : SvR E ⟨F D, s.df, ⟨s.hp.t, s.hp.nx, []⟩, s.n⟩ a' w' := ⟨i3, i1, i4, hS.n, by rw [i5]; exact hS.df⟩
  refine op_step hC hcall hsv hpv hf fun E'' X w'' ho' hx hsv' => ?_
  have o1 : Out E s.hp w E ⟨s.hp.t, s.hp.nx, []⟩ w' := ⟨Env.le_refl E, fun _ _ => rfl, i1, i2⟩
  have o2 := o1.trans ho' (Nat.le_refl _) hext.nx
  refine ⟨E'', ⟨X, hx, rfl⟩, ⟨o2.le, o2.off, o2.rep, o2.frm⟩, ⟨⟨fun t v hv => ?_, hsv'.fr.gl⟩, ho'.rep, hsv'.sz, hS.n, hsv'.df⟩⟩
  obtain ⟨c1, c2⟩ := clearD_get _ _ _ _ hv
  refine hsv'.fr.look t v ?_
  show (F D).get t = some v
  rw [← c1]
  refine (FT_congr hdsm ops.length fun j hj hdj => ?_).trans (FT_out (f0 := s.fr) (vs := vs) hdsm (m := 0) (D := fun _ => false) ops.length (by omega) (fun _ _ => rfl) t)
  obtain ⟨oj, hoj⟩ := hget j hj
  exact absurd (hds j oj t hoj hdj).2 (c2 oj (List.mem_of_getElem? hoj))
 -- all orders
 have hall : ∀ (fuel : Nat) (listed : Array Bool) (l : List Nat), listed.size = ops.length → l.Nodup → (∀ j, j < ops.length → (listed.getD j false = false ↔ j ∈ l)) → l.length ≤ fuel → (∀ j ∈ l, j < ops.length) → Cl (fun j => listed.getD j false) → listed.getD p false = false →
   ∀ a' w', I (fun j => listed.getD j false) a' w' → wpAny P .any ops.toArray (Post E s w (.pan x) ⟨clearD ops s.fr, s.df, ⟨qq.t, qq.nx, qq.log ++ s.hp.log⟩, s.n⟩) fuel listed a' w' := by
  have hready : ∀ (listed : Array Bool), listed.size = ops.length → ∀ i, i ∈ Region.ready .any ops.toArray listed → ∃ o, ops[i]? = some o ∧ listed.getD i false = false ∧ ∀ e ∈ o.after, Region.binds .any e = true → listed.getD e.on false = true := by
   intro listed hsz i hi
   obtain ⟨g1, o, g2, g3⟩ := mem_ready.1 hi
   have : ops[i]? = some o := by simpa using g2
   refine ⟨o, this, ?_, g3⟩
   have hlt : i < listed.size := by rw [hsz]; exact hin this
   simp [hlt] at g1 ⊢
   exact g1
  have hsome : ∀ (listed : Array Bool), listed.size = ops.length → (∃ j, j < ops.length ∧ listed.getD j false = false) → Region.ready .any ops.toArray listed ≠ [] := by
   intro listed hsz ⟨j, hj, hjf⟩ hnil
   have hmin : ∀ j, j < ops.length → listed.getD j false = false → False := by
    intro j
    induction j using Nat.strongRecOn with
    | _ j ih =>
     intro hj hjf
     obtain ⟨o, ho⟩ := hget j hj
     have hb := (hed j o ho).1
     unfold edgeB at hb
     rw [allL_iff] at hb
     have : j ∈ Region.ready .any ops.toArray listed := by
      refine mem_ready.2 ⟨?_, o, by simpa using ho, fun e he hbe => ?_⟩
      ·have hlt : j < listed.size := by rw [hsz]; exact hj
       simp [hlt] at hjf ⊢
       exact hjf
      ·have hlt : e.on < j := by have := hb e (by simpa using he); rw [hbe] at this; simpa [Nat.blt_eq] using this
       cases hh : listed.getD e.on false with
       | true => rfl
       | false => exact (ih e.on hlt (by omega) hh).elim
     rw [hnil] at this
     simp at this
   exact hmin j hj hjf
  intro fuel
  induction fuel with
  | zero =>
   intro listed l hsz hnd hl hlen' hlb hcl hlp a' w' hI
   have hl0 : l = [] := by simpa using hlen'
   subst hl0
   have := (hl p hpl).1 hlp
   simp at this
  | succ fuel ih =>
   intro listed l hsz hnd hl hlen' hlb hcl hlp a' w' hI
   refine ⟨fun hnil => absurd hnil (hsome listed hsz ⟨p, hpl, hlp⟩), fun i hi => ?_⟩
   obtain ⟨o, ho, g1, g2⟩ := hready listed hsz i hi
   have hiN := hin ho
   have hBi : ∀ j, bitOf (maskOf pres i) j = true → listed.getD j false = true := fun j hB => by
    obtain ⟨e, he, hbe, hlt, hj⟩ := (hM i o ho j).1 hB
    have hdn := g2 e (by simpa using he) hbe
    rcases hj with rfl | hj
    ·exact hdn
    ·exact hcl e.on (by omega) hdn j hj
   by_cases hip : i = p
   ·subst hip
    exact hpan (fun j => listed.getD j false) hcl g1 hBi a' w' hI _
   have hac : actB i = true := by
    have hb : bitOf (maskOf pres i) p = false := by
     rw [Bool.eq_false_iff]
     intro hb
     have := hBi p hb
     rw [hlp] at this
     simp at this
    simp [actB, hip, hb]
   refine hstep (fun j => listed.getD j false) i o hcl ho hac g1 hBi a' w' hI _ _ fun a'' w'' hI' => ?_
   have hup : (up (fun j => listed.getD j false) i) = fun j => (listed.setIfInBounds i true).getD j false := by
    funext j
    simp only [up]
    by_cases e : j = i
    ·subst e
     have hlt : j < listed.size := by rw [hsz]; exact hiN
     simp [hlt]
    ·rw [if_neg e, getD_set_ne false (fun h => e h.symm)]
   rw [hup] at hI'
   refine ih (listed.setIfInBounds i true) (l.erase i) (by simp [hsz]) (hnd.erase i) (fun j hj => ?_) ?_ (fun j hj => hlb j (List.mem_of_mem_erase hj)) ?_ ?_ a'' w'' hI'
   ·have e0 := congrFun hup j
    simp only [up] at e0
    rw [← e0]
    by_cases e : j = i
    ·subst e
     rw [if_pos rfl]
     simp only [Bool.true_eq_false, false_iff]
     exact fun h => (hnd.mem_erase_iff.1 h).1 rfl
    ·rw [if_neg e, hnd.mem_erase_iff, hl j hj]
     simp [e]
   ·have : i ∈ l := (hl i hiN).1 g1
    rw [List.length_erase_of_mem this]
    omega
   ·rw [← hup]
    exact hclup _ i o hcl ho hBi
   ·have e0 := congrFun hup p
    simp only [up] at e0
    rw [← e0, if_neg (fun e => hip e.symm)]
    exact hlp
 refine wp_region_any hC.mo ?_
 have hsz0 : (ops.toArray).size = ops.length := by simp
 rw [hsz0]
 have hrep : ∀ j, (Array.replicate ops.length false).getD j false = false := fun j => by
  simp only [Array.getD_eq_getD_getElem?, Array.getElem?_replicate]
  split <;> rfl
 refine hall ops.length (Array.replicate ops.length false) (List.range ops.length) (by simp) List.nodup_range (fun j hj => ?_) (by simp) (fun j hj => by simpa using hj) (fun k hk hD => ?_) (hrep p) a { w with drawn := w.drawn + 1 } ?_
 ·rw [hrep]; simpa using hj
 ·simp only [hrep] at hD; simp at hD
 ·have e0 : (fun j => (Array.replicate ops.length false).getD j false) = fun _ => false := funext hrep
  rw [e0]
  have eF : ∀ t, (F fun _ => false).get t = s.fr.get t := fun t => FT_out hdsm (m := 0) ops.length (by omega) (fun _ _ => rfl) t
  exact ⟨hS.rep.same rfl, ⟨rfl, rfl, rfl, Nat.le_refl _, fun _ _ _ => rfl, fun h o e h1 h2 hr => .inl ⟨h, o, e, h1, h2, hr, rfl⟩⟩, ⟨fun t v hv => hS.fr.look t v (by rw [← eF]; exact hv), hS.fr.gl⟩, hS.sz, rfl⟩
end
/- Vc: the machine's code, against the world's. By this project. -/
section
variable {P : Program} {C : Cx} (hC : COk P C) {call : CallF} (hcall : CallOk P call)
include hC hcall
omit hC in
theorem vcode_ext : ∀ (n : Nat) (c : Code) (s : Sv) (ex : Ex) (s' : Sv), vcode C call n c s = some (ex, s') → Ext s.hp s'.hp
 | 0, c, s, ex, s', h => by simp [vcode] at h
 | n + 1, c, s, ex, s', h => by
  unfold vcode at h
  split at h
  ·simp only [Option.some.injEq, Prod.mk.injEq] at h; rw [← h.2]; exact ext_refl _
  ·simp only [Option.some.injEq, Prod.mk.injEq] at h; rw [← h.2]; exact ext_refl _
  ·simp only [Option.some.injEq, Prod.mk.injEq] at h; rw [← h.2]; exact ext_refl _
  ·simp only [Option.some.injEq, Prod.mk.injEq] at h; rw [← h.2]; exact ext_refl _
  ·simp only [Option.bind_eq_some_iff] at h
   obtain ⟨⟨e1, s1⟩, h1, h⟩ := h
   have k1 := vcode_ext n _ _ _ _ h1
   split at h
   ·have k2 := vcode_ext n _ _ _ _ h
    exact k1.trans k2
   ·simp only [Option.some.injEq, Prod.mk.injEq] at h; rw [← h.2]; exact k1
  ·simp only [Option.bind_eq_some_iff] at h
   obtain ⟨v, hv, h⟩ := h
   split at h
   ·exact vcode_ext n _ _ _ _ h
   ·exact vcode_ext n _ _ _ _ h
   ·simp at h
  ·simp only [Option.bind_eq_some_iff] at h
   obtain ⟨⟨e1, s1⟩, h1, h⟩ := h
   have k1 := vcode_ext n _ _ _ _ h1
   split at h
   ·split at h <;> (simp only [Option.some.injEq, Prod.mk.injEq] at h; rw [← h.2]; exact k1)
   ·simp only [Option.some.injEq, Prod.mk.injEq] at h; rw [← h.2]; exact k1
  ·simp only [Option.bind_eq_some_iff] at h
   obtain ⟨⟨e1, s1⟩, h1, h⟩ := h
   have k1 := vcode_ext n _ _ _ _ h1
   split at h
   ·have k2 := vcode_ext n _ _ _ _ h
    exact k1.trans k2
   ·simp only [Option.some.injEq, Prod.mk.injEq] at h; rw [← h.2]; exact k1
  ·exact vcode_ext n _ _ _ _ h
  ·split at h
   ·simp only [Option.bind_eq_some_iff] at h
    obtain ⟨⟨e1, s1⟩, h1, h⟩ := h
    have k1 := vlist_ext hcall _ _ _ _ h1
    split at h <;> (simp only [Option.some.injEq, Prod.mk.injEq] at h; rw [← h.2]; exact k1)
   ·dsimp only at h
    split at h
    ·split at h
     ·rename_i d h1
      simp only [Option.some.injEq, Prod.mk.injEq] at h
      rw [← h.2]
      exact vdraw_nx hcall.nx _ _ _ _ h1
     ·simp only [Option.bind_eq_some_iff, Option.some.injEq, Prod.mk.injEq] at h
      obtain ⟨q, h1, h2, h3⟩ := h
      rw [← h3]
      exact vdpan_ext hcall.nx h1
    ·simp at h
  ·simp at h
theorem vcode_nx (n : Nat) (c : Code) (s : Sv) (ex : Ex) (s' : Sv) (h : vcode C call n c s = some (ex, s')) : s.hp.nx ≤ s'.hp.nx := (vcode_ext hcall n c s ex s' h).nx
def LoopWp (P : Program) (c : Code) (Q : Exit → Act → World → Prop) (a : Act) (w : World) : Prop :=
 ∀ (b : Frame) (k : List Item) (cs : List Frame), ∃ e a' w', Q e a' w' ∧ Arrives P (lone (b.at a (.code c :: .inLoop c :: k)) cs w) b k cs e a' w'
omit hC hcall in
theorem loopWp_step {c : Code} {Q : Exit → Act → World → Prop} {a : Act} {w : World} (h : c.wp P (Exit.then (LoopWp P c Q) Q) a w) : LoopWp P c Q a w := by
 intro b k cs
 obtain ⟨e, a1, w1, hq, harr⟩ := h b (.inLoop c :: k) cs
 cases e with
 | normal =>
  obtain ⟨e2, a2, w2, hq2, harr2⟩ := hq b k cs
  exact ⟨e2, a2, w2, hq2, .of_steps (Steps.trans harr (.one step_inLoop)) harr2⟩
 | exit id => exact ⟨_, a1, w1, hq, .pass (x := .inLoop c) rfl (fun _ _ => .inl (by simp)) harr⟩
 | goto l => exact ⟨_, a1, w1, hq, .pass (x := .inLoop c) rfl (fun _ _ => .inl (by simp)) harr⟩
 | ret => exact ⟨_, a1, w1, hq, .pass (x := .inLoop c) rfl (fun _ _ => .inl (by simp)) harr⟩
 | panic ch => exact ⟨_, a1, w1, hq, .pass (x := .inLoop c) rfl (fun _ _ => .inl (by simp)) harr⟩
 | outgrown => exact ⟨_, a1, w1, hq, .pass (x := .inLoop c) rfl (fun _ _ => .inl (by simp)) harr⟩
omit hC hcall in
theorem wp_of_loopWp {c : Code} {Q : Exit → Act → World → Prop} {a : Act} {w : World} (h : LoopWp P c Q a w) : (Code.loop c).wp P Q a w := fun b k cs => by
 obtain ⟨e, a', w', hq, harr⟩ := h b k cs
 exact ⟨e, a', w', hq, .of_steps (.one step_loop) harr⟩
theorem vcode_ok : ∀ (n : Nat), (∀ (c : Code) (s : Sv) (ex : Ex) (s' : Sv), vcode C call n c s = some (ex, s') → ∀ E a w, SvR E s a w → Free E s.hp.nx s'.hp.nx → c.wp P (Post E s w ex s') a w) ∧
  (∀ (c : Code) (s : Sv) (ex : Ex) (s' : Sv), vcode C call n (.loop c) s = some (ex, s') → ∀ E a w, SvR E s a w → Free E s.hp.nx s'.hp.nx → LoopWp P c (Post E s w ex s') a w)
 | 0 => ⟨fun c s ex s' h => by simp [vcode] at h, fun c s ex s' h => by simp [vcode] at h⟩
 | n + 1 => by
  obtain ⟨ihA, ihB⟩ := vcode_ok n
  have B : ∀ (c : Code) (s : Sv) (ex : Ex) (s' : Sv), vcode C call (n + 1) (.loop c) s = some (ex, s') → ∀ E a w, SvR E s a w → Free E s.hp.nx s'.hp.nx → LoopWp P c (Post E s w ex s') a w := by
   intro c s ex s' h E a w hS hf
   simp only [vcode, Option.bind_eq_some_iff] at h
   obtain ⟨⟨e1, s1⟩, h1, h⟩ := h
   have k1 := vcode_nx hC hcall n _ _ _ _ h1
   split at h
   ·have k2 := vcode_nx hC hcall n _ _ _ _ h
    refine loopWp_step (wp_mono (ihA _ _ _ _ h1 E a w hS (hf.mono (Nat.le_refl _) k2)) fun e a1 w1 hp => ?_)
    obtain ⟨E1, h3, h4, h5⟩ := hp
    rename_i he1
    simp only at he1
    subst he1
    cases e <;> first | exact h3.elim | skip
    intro b k cs
    obtain ⟨e2, a2, w2, hq, harr⟩ := ihB _ _ _ _ h E1 a1 w1 h5 (h4.free (hf.mono k1 (Nat.le_refl _)) (Nat.le_refl _)) b k cs
    exact ⟨e2, a2, w2, Post.trans h4 k1 k2 hq, harr⟩
   ·rename_i hne
    simp only [Option.some.injEq, Prod.mk.injEq] at h
    obtain ⟨rfl, rfl⟩ := h
    refine loopWp_step (wp_mono (ihA _ _ _ _ h1 E a w hS hf) fun e a1 w1 hp => ?_)
    obtain ⟨E1, h3, h4, h5⟩ := hp
    cases e1 <;> cases e <;> first | exact h3.elim | exact absurd rfl hne | exact ⟨E1, h3, h4, h5⟩
  refine ⟨fun c s ex s' h E a w hS hf => ?_, B⟩
  cases c with
  | loop c => exact wp_of_loopWp (B c s ex s' h E a w hS hf)
  | skip =>
   simp only [vcode, Option.some.injEq, Prod.mk.injEq] at h
   obtain ⟨rfl, rfl⟩ := h
   exact wp_skip ⟨E, trivial, out_refl hS.rep, hS⟩
  | label l =>
   simp only [vcode, Option.some.injEq, Prod.mk.injEq] at h
   obtain ⟨rfl, rfl⟩ := h
   exact wp_label ⟨E, trivial, out_refl hS.rep, hS⟩
  | ret =>
   simp only [vcode, Option.some.injEq, Prod.mk.injEq] at h
   obtain ⟨rfl, rfl⟩ := h
   exact wp_ret ⟨E, trivial, out_refl hS.rep, hS⟩
  | exit id =>
   simp only [vcode, Option.some.injEq, Prod.mk.injEq] at h
   obtain ⟨rfl, rfl⟩ := h
   exact wp_exit ⟨E, rfl, out_refl hS.rep, hS⟩
  | seq x y =>
   simp only [vcode, Option.bind_eq_some_iff] at h
   obtain ⟨⟨e1, s1⟩, h1, h⟩ := h
   have k1 := vcode_nx hC hcall n _ _ _ _ h1
   split at h
   ·have k2 := vcode_nx hC hcall n _ _ _ _ h
    refine wp_seq (wp_mono (ihA _ _ _ _ h1 E a w hS (hf.mono (Nat.le_refl _) k2)) fun e a1 w1 hp => ?_)
    obtain ⟨E1, h3, h4, h5⟩ := hp
    rename_i he1
    simp only at he1
    subst he1
    cases e <;> first | exact h3.elim | skip
    exact wp_mono (ihA _ _ _ _ h E1 a1 w1 h5 (h4.free (hf.mono k1 (Nat.le_refl _)) (Nat.le_refl _))) fun e2 a2 w2 hq => Post.trans h4 k1 k2 hq
   ·rename_i hne
    simp only [Option.some.injEq, Prod.mk.injEq] at h
    obtain ⟨rfl, rfl⟩ := h
    refine wp_seq (wp_mono (ihA _ _ _ _ h1 E a w hS hf) fun e a1 w1 hp => ?_)
    obtain ⟨E1, h3, h4, h5⟩ := hp
    cases e1 <;> cases e <;> first | exact h3.elim | exact absurd rfl hne | exact ⟨E1, h3, h4, h5⟩
  | cond q x y =>
   simp only [vcode, Option.bind_eq_some_iff] at h
   obtain ⟨v, hv, h⟩ := h
   have he := hS.fr.ev hv
   split at h
   ·simp only [ren, Option.some.injEq] at he
    exact wp_cond_true he.symm (ihA _ _ _ _ h E a w hS hf)
   ·simp only [ren, Option.some.injEq] at he
    exact wp_cond_false he.symm (ihA _ _ _ _ h E a w hS hf)
   ·simp at h
  | block id c =>
   simp only [vcode, Option.bind_eq_some_iff] at h
   obtain ⟨⟨e1, s1⟩, h1, h⟩ := h
   have hs : s1 = s' := by
    split at h
    ·split at h <;> (simp only [Option.some.injEq, Prod.mk.injEq] at h; exact h.2)
    ·simp only [Option.some.injEq, Prod.mk.injEq] at h; exact h.2
   subst hs
   refine wp_block (wp_mono (ihA _ _ _ _ h1 E a w hS hf) fun e a1 w1 hp => ?_)
   obtain ⟨E1, h3, h4, h5⟩ := hp
   split at h
   ·rename_i j hej
    simp only at hej
    subst hej
    cases e with
    | exit j' => ?_
    | _ => exact h3.elim
    have : j = j' := h3
    subst this
    simp only [Exit.inBlock]
    split at h
    ·rename_i hb
     have hb := Nat.eq_of_beq_eq_true hb
     simp only [Option.some.injEq, Prod.mk.injEq] at h
     rw [if_pos hb]
     rw [← h.1]
     exact ⟨E1, trivial, h4, h5⟩
    ·rename_i hb
     simp only [Option.some.injEq, Prod.mk.injEq] at h
     rw [if_neg (fun e => by rw [e] at hb; simp [Nat.beq_eq] at hb)]
     rw [← h.1]
     exact ⟨E1, rfl, h4, h5⟩
   ·rename_i hne
    simp only [Option.some.injEq, Prod.mk.injEq] at h
    obtain ⟨rfl, _⟩ := h
    cases e1 <;> cases e <;> first | exact h3.elim | exact absurd rfl (hne _) | exact ⟨E1, h3, h4, h5⟩
  | scope c =>
   simp only [vcode] at h
   refine wp_scope_straight (wp_mono (ihA _ _ _ _ h E a w hS hf) fun e a' w' hp => ?_)
   cases e <;> first | exact hp | (obtain ⟨_, h3, _⟩ := hp; cases ex <;> exact h3.elim)
  | region id ops draw =>
   simp only [vcode] at h
   split at h
   ·simp only [Option.bind_eq_some_iff] at h
    obtain ⟨⟨q, s1⟩, h1, h⟩ := h
    have hs : ex = exOf q ∧ s1 = s' := by
     split at h
     ·rename_i hq
      simp only at hq
      subst hq
      simp only [Option.some.injEq, Prod.mk.injEq] at h
      exact ⟨h.1.symm, h.2⟩
     ·rename_i hq
      simp only at hq
      subst hq
      simp only [Option.some.injEq, Prod.mk.injEq] at h
      exact ⟨h.1.symm, h.2⟩
    obtain ⟨rfl, rfl⟩ := hs
    have e0 : ops = ops.toList.toArray := by simp
    rw [e0]
    exact wp_region_lit (by simpa using vlist_ok hC hcall (ops := ops.toList) ops.toList s s1 q h1 E a w hS hf _ (fun _ _ _ h => h))
   ·split at h
    ·rename_i hchk
     split at h
     ·rename_i d h1
      simp only [Option.some.injEq, Prod.mk.injEq] at h
      obtain ⟨rfl, rfl⟩ := h
      have := vdraw_ok (id := id) hC hcall hchk h1 hS hf
      simpa using this
     ·simp only [Option.bind_eq_some_iff, Option.some.injEq, Prod.mk.injEq] at h
      obtain ⟨⟨x, q⟩, h1, rfl, rfl⟩ := h
      have := vdpan_ok (id := id) hC hcall hchk h1 hS hf
      simpa using this
    ·simp at h
  | _ => simp [vcode] at h
end
/- Vq: the machine's calls, deferred functions, recovered panics, against the world's. By this project. -/
def FMR (E : Env) : FM → FrameMode → Prop
 | .ret, .returning => True
 | .pan x r, .panicking ch => ∃ X, ren E x = some X ∧ ch = [{ v := X, recovered := r }]
 | _, _ => False
theorem FMR.mono {E E' : Env} (h : E.le E') {u : FM} {m : FrameMode} (k : FMR E u m) : FMR E' u m := by
 cases u <;> cases m <;> first | exact k.elim | trivial | (obtain ⟨X, h1, h2⟩ := k; exact ⟨X, ren_mono h h1, h2⟩)
theorem FMR.settle {E : Env} {u : FM} {m : FrameMode} (k : FMR E u m) : FMR E (settleV u) (settle m) := by
 cases u with
 | ret => cases m <;> first | exact k.elim | trivial
 | pan x r =>
  cases m with
  | panicking ch =>
   obtain ⟨X, h1, rfl⟩ := k
   cases r with
   | false => exact ⟨X, h1, rfl⟩
   | true => exact trivial
  | _ => exact k.elim
theorem FMR.run {E : Env} {u : FM} {m : FrameMode} (k : FMR E u m) : m ≠ .run := fun e => by
 subst e; cases u <;> exact k.elim
section
variable {P : Program} {C : Cx} (hC : COk P C) {call : CallF} (hcall : CallOk P call)
include hC
theorem resV_ok {E : Env} {fr : Tr V} {a : Act} {hp : Hp} {w : World} (hF : FrR E fr a) (hR : Rep E hp.t w) : ∀ (rs : List ResultVar) (vs : List V), resV C fr hp rs = some vs → ∃ xs, renL E vs = some xs ∧ (rs.mapM (resF a.tmps)).run P w = .ok xs w
 | [], vs, h => by
  simp only [resV, Option.some.injEq] at h
  subst h
  exact ⟨[], rfl, rfl⟩
 | .tmp t :: r, vs, h => by
  simp only [resV, Option.bind_eq_some_iff, Option.some.injEq] at h
  obtain ⟨v, hv, us, hus, rfl⟩ := h
  obtain ⟨xs, h1, h2⟩ := resV_ok hF hR r us hus
  obtain ⟨x, h3, h4⟩ := hF.look t v hv
  refine ⟨x :: xs, by simp [renL, h4, h1], ?_⟩
  have hg : a.tmps.getD t undef = x := by rw [Array.getD_eq_getD_getElem?, h3]; rfl
  rw [List.mapM_cons]
  simp only [resF, hg, Sem.run_bind, Sem.run_pure, Result.andThen_ok, h2]
 | .cell q t :: r, vs, h => by
  simp only [resV, Option.bind_eq_some_iff, Option.some.injEq] at h
  obtain ⟨p, ⟨pv, hpv, hp1⟩, cs, hcs, v, hv, us, hus, rfl⟩ := h
  obtain ⟨xs, h1, h2⟩ := resV_ok hF hR r us hus
  obtain ⟨y, h3, h4⟩ := hF.look q pv hpv
  obtain ⟨b, k, ex, he, hX⟩ := ptrV_some hp1 h4
  obtain ⟨b', k', ex', x, g1, g2, g3⟩ := load_ok hC hR hcs hv
  rw [he] at g1
  simp only [Option.some.injEq, Prod.mk.injEq] at g1
  obtain ⟨rfl, rfl, rfl⟩ := g1
  refine ⟨x :: xs, by simp [renL, g2, h1], ?_⟩
  have hg : a.tmps.getD q undef = y := by rw [Array.getD_eq_getD_getElem?, h3]; rfl
  rw [List.mapM_cons]
  simp only [resF, hg, hX, asAddr, Sem.run_bind, Sem.run_pure, Result.andThen_ok, g3, h2]
theorem endV_ok {E : Env} {fn : Func} {fr : Tr V} {a : Act} {hp : Hp} {w : World} {v : V} (hF : FrR E fr a) (hR : Rep E hp.t w) (h : endV C fn fr hp = some v) : ∃ x, ren E v = some x ∧ (results fn a.tmps).run P w = .ok x w := by
 simp only [endV, Option.bind_eq_some_iff, Option.some.injEq] at h
 obtain ⟨vs, hvs, rfl⟩ := h
 obtain ⟨xs, h1, h2⟩ := resV_ok hC hF hR _ _ hvs
 have h3 : (fn.results.mapM (resF a.tmps)).run P w = .ok xs.toArray w := by
  rw [Array.mapM_eq_mapM_toList]
  rw [← bind_pure_comp, Sem.run_bind, h2]
  rfl
 rw [results_eq, Sem.run_bind, h3]
 simp only [Result.andThen_ok, Sem.run_pure]
 match vs, xs, h1 with
 | [], xs, h1 =>
  simp only [renL, Option.some.injEq] at h1
  subst h1
  exact ⟨_, rfl, rfl⟩
 | [v], xs, h1 =>
  obtain ⟨x, t, k1, k2, rfl⟩ := renL_cons h1
  simp only [renL, Option.some.injEq] at k2
  subst k2
  exact ⟨x, k1, by simp⟩
 | u :: v :: r, xs, h1 =>
  have hl := renL_len h1
  refine ⟨.tuple xs.toArray, by simp [tupV, ren, h1], ?_⟩
  rw [dif_neg (by simp at hl ⊢; omega)]
omit hC in
theorem argsV_get : ∀ (vs : List V) (i : Nat) (t : Tr V) (j : Nat), i + vs.length ≤ trMax → (argsV i vs t).get j = if i ≤ j ∧ j < i + vs.length then vs[j - i]? else t.get j
 | [], i, t, j, _ => by simp only [argsV, List.length_nil, Nat.add_zero]; rw [if_neg (by omega)]
 | v :: r, i, t, j, h => by
  simp only [List.length_cons] at h
  simp only [argsV]
  rw [argsV_get r (i + 1) _ j (by omega), Tr.get_set _ _ _]
  simp only [List.length_cons]
  by_cases e : j = i
  ·subst e
   rw [if_neg (by omega), if_pos rfl, if_pos (by omega)]
   simp
  ·by_cases e2 : i + 1 ≤ j ∧ j < i + 1 + r.length
   ·rw [if_pos e2, if_pos (by omega), show j - i = (j - (i + 1)) + 1 by omega]
    simp
   ·rw [if_neg e2, if_neg e, if_neg (by omega)]
omit hC in
theorem enterV_ok {E : Env} {fn : Func} {args : List V} {vargs : List Value} {hp : Hp} {s : Sv} {w : World} (h : enterV fn args hp = some s) (hR : Rep E hp.t w) (hG : GlE E) (hA : renL E args = some vargs) :
  s.hp = hp ∧ SvR E s { tmps := vargs.toArray ++ Array.replicate (fn.ntmps - vargs.toArray.size) undef, defers := [] } w := by
 unfold enterV at h
 split at h
 ·rename_i hb
  simp only [Bool.and_eq_true] at hb
  obtain ⟨⟨b1, b2⟩, b3⟩ := hb
  have b1 := Nat.le_of_ble_eq_true b1
  have b2 := Nat.le_of_ble_eq_true b2
  have b3 : fn.ntmps < trMax := by simpa [Nat.blt_eq] using b3
  simp only [Option.some.injEq] at h
  subst h
  have hl := renL_len hA
  refine ⟨rfl, ⟨⟨fun t v hv => ?_, hG⟩, hR, by simp; omega, Nat.le_of_lt b3, trivial⟩⟩
  rw [argsV_get _ _ _ _ (by unfold trMax; omega)] at hv
  split at hv
  ·rename_i ht
   simp only [Nat.sub_zero] at hv
   obtain ⟨x, h1, h2⟩ := renL_get hA hv
   refine ⟨x, ?_, h2⟩
   have : t < vargs.length := (List.getElem?_eq_some_iff.1 h1).1
   rw [Array.getElem?_append_left (by simpa using this)]
   simpa using h1
  ·rw [Tr.get_eq, tr_get_lf] at hv
   simp at hv
 ·simp at h
def wpListS (P : Program) (ops : Array Oper) (Q : Exit → Act → List Frame → World → Prop) : List Oper → Act → List Frame → World → Prop
 | [], a, cs, w => Q .normal a cs w
 | o :: rest, a, cs, w =>
  if Region.wanted o (yielded ops a.tmps) then
   match (execOp a.eval o).run P w with
   | .ok .recover w' =>
    match recoverD cs with
    | some (v, cs') => wpListS P ops Q rest (a.put o.dst v) cs' w'
    | none => wpListS P ops Q rest (a.put o.dst .nilIface) cs w'
   | r => o.upon P a (fun a' w' => wpListS P ops Q rest a' cs w') (fun e a' w' => Q e a' cs w') r
  else wpListS P ops Q rest (a.put o.dst undef) cs w
omit hC in
theorem wpOpsS_eq {ops : Array Oper} {Q : Exit → Act → List Frame → World → Prop} : ∀ (l : List Oper) (k : Nat), (∀ j, l[j]? = ops[k + j]?) → wpOpsS P ops Q (List.range' k l.length) = wpListS P ops Q l
 | [], k, _ => by funext a cs w; simp [wpOpsS, wpListS]
 | o :: l, k, h => by
  have h0 : ops[k]? = some o := by simpa using (h 0).symm
  have ih := wpOpsS_eq (Q := Q) l (k + 1) (fun j => by have := h (j + 1); simpa [Nat.add_assoc, Nat.add_comm 1 j] using this)
  funext a cs w
  simp only [List.length_cons, List.range'_succ, wpOpsS, h0, wpListS, ih]
  rfl
omit hC in
theorem wpS_region_lit {id : Nat} {l : List Oper} {Q : Exit → Act → List Frame → World → Prop} {a : Act} {cs : List Frame} {w : World} (h : wpListS P l.toArray Q l a cs w) : (Code.region id l.toArray false).wpS P Q a cs w := by
 refine wpS_region ?_
 have := wpOpsS_eq (P := P) (ops := l.toArray) (Q := Q) l 0 (fun j => by simp)
 rw [show List.range l.toArray.size = List.range' 0 l.length by simp [List.range_eq_range'], this]
 exact h
omit hC in
theorem wpS_mono {c : Code} {Q Q' : Exit → Act → List Frame → World → Prop} {a : Act} {cs : List Frame} {w : World} (h : c.wpS P Q a cs w) (hq : ∀ e a cs w, Q e a cs w → Q' e a cs w) : c.wpS P Q' a cs w :=
 fun b k hb hr => let ⟨e, a', cs', w', q, r⟩ := h b k hb hr; ⟨e, a', cs', w', hq _ _ _ _ q, r⟩
def inBlockS (id : Nat) (Q : Exit → Act → List Frame → World → Prop) : Exit → Act → List Frame → World → Prop
 | .exit id', a, cs, w => if id' = id then Q .normal a cs w else Q (.exit id') a cs w
 | e, a, cs, w => Q e a cs w
omit hC in
theorem wpS_block {id : Nat} {c : Code} {Q : Exit → Act → List Frame → World → Prop} {a : Act} {cs : List Frame} {w : World} (h : c.wpS P (inBlockS id Q) a cs w) : (Code.block id c).wpS P Q a cs w := by
 intro b k hb hr
 obtain ⟨e, a₁, cs₁, w₁, hq, harr⟩ := h b (.inBlock id :: k) hb hr
 cases e with
 | normal => exact ⟨.normal, a₁, cs₁, w₁, hq, .head step_block (Steps.trans harr (.one step_inBlock))⟩
 | exit id' =>
  by_cases hid : id' = id
  ·simp only [inBlockS, hid, if_true] at hq
   exact ⟨.normal, a₁, cs₁, w₁, hq, .head step_block (harr k (by simp [exitTo, hid]))⟩
  ·simp only [inBlockS, hid, if_false] at hq
   refine ⟨.exit id', a₁, cs₁, w₁, hq, fun k' hk => .head step_block (harr k' ?_)⟩
   have : (id == id') = false := by simp; exact fun h => hid h.symm
   simp [exitTo, this, hk]
 | goto l => exact ⟨_, a₁, cs₁, w₁, hq, fun k' hk => .head step_block (harr k' (by simp [gotoIn, hk]))⟩
 | ret => exact ⟨_, a₁, cs₁, w₁, hq, .of_steps (.one step_block) harr⟩
 | panic ch => exact ⟨_, a₁, cs₁, w₁, hq, .of_steps (.one step_block) harr⟩
 | outgrown => exact ⟨_, a₁, cs₁, w₁, hq, .of_steps (b := b) (k := k) (cs := cs₁) (e := .outgrown) (.one step_block) harr⟩
def PostS (c0 : Frame) (cs : List Frame) (E : Env) (s : Sv) (w : World) (ex : Ex) (s' : Sv) (u' : FM) : Exit → Act → List Frame → World → Prop := fun e a' cs' w' =>
 ∃ E' m', exR ex E' e ∧ Out E s.hp w E' s'.hp w' ∧ SvR E' s' a' w' ∧ FMR E' u' m' ∧ cs' = { c0 with mode := m' } :: cs
omit hC in
theorem PostS.trans {c0 : Frame} {cs : List Frame} {E E1 : Env} {s s1 s2 : Sv} {w w1 : World} {ex : Ex} {u : FM} {e : Exit} {a' : Act} {cs' : List Frame} {w' : World} (h : Out E s.hp w E1 s1.hp w1) (h1 : s.hp.nx ≤ s1.hp.nx) (h2 : s1.hp.nx ≤ s2.hp.nx) (k : PostS c0 cs E1 s1 w1 ex s2 u e a' cs' w') : PostS c0 cs E s w ex s2 u e a' cs' w' := by
 obtain ⟨E', m', g1, g2, g3⟩ := k
 exact ⟨E', m', g1, h.trans g2 h1 h2, g3⟩
omit hC in
theorem drec_ok {E : Env} {u : FM} {m : FrameMode} {c0 : Frame} {cs : List Frame} (k : FMR E u m) : ∃ x m', ren E (drec u).1 = some x ∧ FMR E (drec u).2 m' ∧
  ((recoverD ({ c0 with mode := m } :: cs) = some (x, { c0 with mode := m' } :: cs)) ∨ (recoverD ({ c0 with mode := m } :: cs) = none ∧ x = .nilIface ∧ m' = m)) := by
 cases u with
 | ret =>
  cases m with
  | returning => exact ⟨.nilIface, .returning, rfl, trivial, .inr ⟨rfl, rfl, rfl⟩⟩
  | _ => exact k.elim
 | pan x r =>
  cases m with
  | panicking ch =>
   obtain ⟨X, h1, rfl⟩ := k
   cases r with
   | false => exact ⟨X, .panicking [{ v := X, recovered := true }], h1, ⟨X, h1, rfl⟩, .inl rfl⟩
   | true => exact ⟨.nilIface, .panicking [{ v := X, recovered := true }], rfl, ⟨X, h1, rfl⟩, .inr ⟨rfl, rfl, rfl⟩⟩
  | _ => exact k.elim
omit hC in
theorem isRec_run {o : Oper} (h : isRec o.op = true) (a : Act) (w : World) : (execOp a.eval o).run P w = .ok .recover w := by
 obtain ⟨dst, op, ty, ps, af, gd⟩ := o
 cases op <;> simp [isRec] at h
 rename_i c
 cases hc : c.callee <;> rw [hc] at h <;> simp at h
 rename_i b
 cases b <;> simp at h
 simp only [execOp, Sem.run_bind, resolve, hc, Sem.run_pure, Result.andThen_ok, invoke, builtin]
include hcall
omit hC in
theorem vdlist_ext {ops : List Oper} : ∀ (r : List Oper) (s : Sv) (u : FM) (q : Option V) (s' : Sv) (u' : FM), vdlist C call ops r s u = some (q, s', u') → Ext s.hp s'.hp
 | [], s, u, q, s', u', h => by
  simp only [vdlist, Option.some.injEq, Prod.mk.injEq] at h
  rw [← h.2.1]; exact ext_refl _
 | o :: r, s, u, q, s', u', h => by
  simp only [vdlist, Option.bind_eq_some_iff] at h
  obtain ⟨b, hb, h⟩ := h
  split at h
  ·simp only [Option.bind_eq_some_iff] at h
   obtain ⟨fr, hfr, h⟩ := h
   have := vdlist_ext r _ _ _ _ _ h
   exact this
  ·split at h
   ·simp only [Option.bind_eq_some_iff] at h
    obtain ⟨fr, hfr, h⟩ := h
    have := vdlist_ext r _ _ _ _ _ h
    exact this
   ·simp only [Option.bind_eq_some_iff] at h
    obtain ⟨⟨rr, hp'⟩, hv, h⟩ := h
    have h1 : Ext s.hp hp' := vop_nx hcall.nx hv
    cases rr with
    | v x =>
     simp only [Option.bind_eq_some_iff] at h
     obtain ⟨fr, hfr, h⟩ := h
     exact h1.trans (vdlist_ext r _ _ _ _ _ h)
    | pan x =>
     simp only [Option.some.injEq, Prod.mk.injEq] at h
     rw [← h.2.1]
     exact h1
theorem vdlist_ok {ops : List Oper} {c0 : Frame} {cs : List Frame} : ∀ (r : List Oper) (s : Sv) (u : FM) (q : Option V) (s' : Sv) (u' : FM), vdlist C call ops r s u = some (q, s', u') → ∀ E a w m, SvR E s a w → FMR E u m → Free E s.hp.nx s'.hp.nx →
  ∀ Q, (∀ e a' cs' w', PostS c0 cs E s w (exOf q) s' u' e a' cs' w' → Q e a' cs' w') → wpListS P ops.toArray Q r a ({ c0 with mode := m } :: cs) w
 | [], s, u, q, s', u', h, E, a, w, m, hS, hM, hf, Q, hQ => by
  simp only [vdlist, Option.some.injEq, Prod.mk.injEq] at h
  obtain ⟨rfl, rfl, rfl⟩ := h
  exact hQ _ _ _ _ ⟨E, m, trivial, out_refl hS.rep, hS, hM, rfl⟩
 | o :: r, s, u, q, s', u', h, E, a, w, m, hS, hM, hf, Q, hQ => by
  simp only [vdlist, Option.bind_eq_some_iff] at h
  obtain ⟨b, hb, h⟩ := h
  have hw := want_ok hS.fr hb
  simp only [wpListS, hw]
  split at h
  ·simp only [Option.bind_eq_some_iff] at h
   obtain ⟨fr, hfr, h⟩ := h
   simp only [Bool.false_eq_true, if_false]
   exact vdlist_ok r _ _ _ _ _ h E _ w m (hS.op (out_refl hS.rep) hfr (v := undV) (x := undef) rfl) hM hf Q hQ
  ·simp only [if_true]
   split at h
   ·rename_i hrec
    simp only [Option.bind_eq_some_iff] at h
    obtain ⟨fr, hfr, h⟩ := h
    rw [isRec_run (P := P) hrec]
    obtain ⟨x, m', h1, h2, h3⟩ := drec_ok (c0 := c0) (cs := cs) hM
    have hS' := hS.op (out_refl hS.rep) hfr (x := x) h1
    rcases h3 with h3 | ⟨h3, rfl, rfl⟩
    ·simp only [h3]
     exact vdlist_ok r _ _ _ _ _ h E _ w m' hS' h2 hf Q hQ
    ·simp only [h3]
     exact vdlist_ok r _ _ _ _ _ h E _ w m' hS' h2 hf Q hQ
   ·rename_i hrec
    simp only [Option.bind_eq_some_iff] at h
    obtain ⟨⟨rr, hp'⟩, hv, h⟩ := h
    have h1 : s.hp.nx ≤ hp'.nx := (vop_nx hcall.nx hv).nx
    have hup : o.wp P a w (fun a' w' => wpListS P ops.toArray Q r a' ({ c0 with mode := m } :: cs) w') (fun e a' w' => Q e a' ({ c0 with mode := m } :: cs) w') := by
     cases rr with
     | v x =>
      simp only [Option.bind_eq_some_iff] at h
      obtain ⟨fr, hfr, h⟩ := h
      have h2 := (vdlist_ext hcall r _ _ _ _ _ h).nx
      simp only at h2
      exact op_step hC hcall hS hv (hf.mono (Nat.le_refl _) h2) ⟨fr, hfr, fun E' y w' ho hS' => vdlist_ok r _ _ _ _ _ h E' _ w' m hS' (hM.mono ho.le) (ho.free (hf.mono h1 (Nat.le_refl _)) (Nat.le_refl _)) Q fun e a' cs' w'' hp => hQ _ _ _ _ (PostS.trans (s1 := ⟨fr, s.df, hp', s.n⟩) ho h1 h2 hp)⟩
     | pan x =>
      simp only [Option.some.injEq, Prod.mk.injEq] at h
      obtain ⟨rfl, rfl, rfl⟩ := h
      exact op_step hC hcall hS hv hf fun E' y w' ho hx hS' => hQ _ _ _ _ ⟨E', m, ⟨y, hx, rfl⟩, ho, hS', hM.mono ho.le, rfl⟩
    unfold Oper.wp at hup
    generalize (execOp a.eval o).run P w = res at hup ⊢
    cases res with
    | ok n w' => cases n <;> first | exact hup | exact hup.elim
    | halt x w' => exact hup
omit hC in
theorem vdcode_ext : ∀ (n : Nat) (c : Code) (s : Sv) (u : FM) (ex : Ex) (s' : Sv) (u' : FM), vdcode C call n c s u = some (ex, s', u') → Ext s.hp s'.hp
 | 0, c, s, u, ex, s', u', h => by simp [vdcode] at h
 | n + 1, c, s, u, ex, s', u', h => by
  have other : ∀ c, (vcode C call n c s).bind (fun q => some (q.1, q.2, u)) = some (ex, s', u') → Ext s.hp s'.hp := fun c h => by
   simp only [Option.bind_eq_some_iff, Option.some.injEq, Prod.mk.injEq] at h
   obtain ⟨⟨e1, s1⟩, h1, _, rfl, _⟩ := h
   exact vcode_ext hcall n _ _ _ _ h1
  unfold vdcode at h
  split at h
  ·simp only [Option.bind_eq_some_iff] at h
   obtain ⟨⟨e1, s1, u1⟩, h1, h⟩ := h
   have k1 := vdcode_ext n _ _ _ _ _ _ h1
   split at h
   ·have k2 := vdcode_ext n _ _ _ _ _ _ h
    exact k1.trans k2
   ·simp only [Option.some.injEq, Prod.mk.injEq] at h; rw [← h.2.1]; exact k1
  ·simp only [Option.bind_eq_some_iff] at h
   obtain ⟨v, hv, h⟩ := h
   split at h
   ·exact vdcode_ext n _ _ _ _ _ _ h
   ·exact vdcode_ext n _ _ _ _ _ _ h
   ·simp at h
  ·simp only [Option.bind_eq_some_iff] at h
   obtain ⟨⟨e1, s1, u1⟩, h1, h⟩ := h
   have k1 := vdcode_ext n _ _ _ _ _ _ h1
   split at h
   ·split at h <;> (simp only [Option.some.injEq, Prod.mk.injEq] at h; rw [← h.2.1]; exact k1)
   ·simp only [Option.some.injEq, Prod.mk.injEq] at h; rw [← h.2.1]; exact k1
  ·split at h
   ·simp only [Option.bind_eq_some_iff] at h
    obtain ⟨⟨q, s1, u1⟩, h1, h⟩ := h
    have k1 := vdlist_ext hcall _ _ _ _ _ _ h1
    split at h <;> (simp only [Option.some.injEq, Prod.mk.injEq] at h; rw [← h.2.1]; exact k1)
   ·exact other _ h
  ·exact other _ h
theorem vdcode_ok {c0 : Frame} {cs : List Frame} : ∀ (n : Nat) (c : Code) (s : Sv) (u : FM) (ex : Ex) (s' : Sv) (u' : FM), vdcode C call n c s u = some (ex, s', u') → ∀ E a w m, SvR E s a w → FMR E u m → Free E s.hp.nx s'.hp.nx →
  c.wpS P (PostS c0 cs E s w ex s' u') a ({ c0 with mode := m } :: cs) w
 | 0, c, s, u, ex, s', u', h, E, a, w, m, hS, hM, hf => by simp [vdcode] at h
 | n + 1, c, s, u, ex, s', u', h, E, a, w, m, hS, hM, hf => by
  have other : ∀ c, (vcode C call n c s).bind (fun q => some (q.1, q.2, u)) = some (ex, s', u') → c.wpS P (PostS c0 cs E s w ex s' u') a ({ c0 with mode := m } :: cs) w := fun c h => by
   simp only [Option.bind_eq_some_iff, Option.some.injEq, Prod.mk.injEq] at h
   obtain ⟨⟨e1, s1⟩, h1, rfl, rfl, rfl⟩ := h
   refine wpS_of_wp (wp_mono ((vcode_ok hC hcall n).1 _ _ _ _ h1 E a w hS hf) fun e a' w' hp => ?_)
   obtain ⟨E', k1, k2, k3⟩ := hp
   exact ⟨E', m, k1, k2, k3, hM.mono k2.le, rfl⟩
  unfold vdcode at h
  split at h
  ·simp only [Option.bind_eq_some_iff] at h
   obtain ⟨⟨e1, s1, u1⟩, h1, h⟩ := h
   have k1 := (vdcode_ext hcall n _ _ _ _ _ _ h1).nx
   split at h
   ·rename_i he1
    simp only at he1
    subst he1
    have k2 := (vdcode_ext hcall n _ _ _ _ _ _ h).nx
    refine wpS_seq (wpS_mono (vdcode_ok n _ _ _ _ _ _ h1 E a w m hS hM (hf.mono (Nat.le_refl _) k2)) fun e a1 cs1 w1 hp => ?_)
    obtain ⟨E1, m1, h3, h4, h5, h6, rfl⟩ := hp
    cases e <;> first | exact h3.elim | skip
    exact wpS_mono (vdcode_ok n _ _ _ _ _ _ h E1 a1 w1 m1 h5 h6 (h4.free (hf.mono k1 (Nat.le_refl _)) (Nat.le_refl _))) fun e2 a2 cs2 w2 hq => PostS.trans h4 k1 k2 hq
   ·rename_i hne
    simp only [Option.some.injEq, Prod.mk.injEq] at h
    obtain ⟨rfl, rfl, rfl⟩ := h
    refine wpS_seq (wpS_mono (vdcode_ok n _ _ _ _ _ _ h1 E a w m hS hM hf) fun e a1 cs1 w1 hp => ?_)
    obtain ⟨E1, m1, h3, h4, h5, h6, rfl⟩ := hp
    cases e1 <;> cases e <;> first | exact h3.elim | exact absurd rfl hne | exact ⟨E1, m1, h3, h4, h5, h6, rfl⟩
  ·simp only [Option.bind_eq_some_iff] at h
   obtain ⟨v, hv, h⟩ := h
   have he := hS.fr.ev hv
   split at h
   ·simp only [ren, Option.some.injEq] at he
    exact wpS_cond (t := true) he.symm (by simpa using vdcode_ok n _ _ _ _ _ _ h E a w m hS hM hf)
   ·simp only [ren, Option.some.injEq] at he
    exact wpS_cond (t := false) he.symm (by simpa using vdcode_ok n _ _ _ _ _ _ h E a w m hS hM hf)
   ·simp at h
  ·rename_i id c
   simp only [Option.bind_eq_some_iff] at h
   obtain ⟨⟨e1, s1, u1⟩, h1, h⟩ := h
   have hs : s1 = s' ∧ u1 = u' := by
    split at h
    ·split at h <;> (simp only [Option.some.injEq, Prod.mk.injEq] at h; exact h.2)
    ·simp only [Option.some.injEq, Prod.mk.injEq] at h; exact h.2
   obtain ⟨rfl, rfl⟩ := hs
   refine wpS_block (wpS_mono (vdcode_ok n _ _ _ _ _ _ h1 E a w m hS hM hf) fun e a1 cs1 w1 hp => ?_)
   obtain ⟨E1, m1, h3, h4, h5, h6, rfl⟩ := hp
   split at h
   ·rename_i j hej
    simp only at hej
    subst hej
    cases e with
    | exit j' => ?_
    | _ => exact h3.elim
    have : j = j' := h3
    subst this
    simp only [inBlockS]
    split at h
    ·rename_i hb
     have hb := Nat.eq_of_beq_eq_true hb
     simp only [Option.some.injEq, Prod.mk.injEq] at h
     rw [if_pos hb]
     rw [← h.1]
     exact ⟨E1, m1, trivial, h4, h5, h6, rfl⟩
    ·rename_i hb
     simp only [Option.some.injEq, Prod.mk.injEq] at h
     rw [if_neg (fun e => by rw [e] at hb; simp [Nat.beq_eq] at hb)]
     rw [← h.1]
     exact ⟨E1, m1, rfl, h4, h5, h6, rfl⟩
   ·rename_i hne
    simp only [Option.some.injEq, Prod.mk.injEq] at h
    obtain ⟨rfl, _⟩ := h
    cases e1 <;> cases e <;> first | exact h3.elim | exact absurd rfl (hne _) | exact ⟨E1, m1, h3, h4, h5, h6, rfl⟩
  ·rename_i id ops draw
   split at h
   ·simp only [Option.bind_eq_some_iff] at h
    obtain ⟨⟨q, s1, u1⟩, h1, h⟩ := h
    have hs : ex = exOf q ∧ s1 = s' ∧ u1 = u' := by
     split at h
     ·rename_i hq
      simp only at hq
      subst hq
      simp only [Option.some.injEq, Prod.mk.injEq] at h
      exact ⟨h.1.symm, h.2⟩
     ·rename_i hq
      simp only at hq
      subst hq
      simp only [Option.some.injEq, Prod.mk.injEq] at h
      exact ⟨h.1.symm, h.2⟩
    obtain ⟨rfl, rfl, rfl⟩ := hs
    have := wpS_region_lit (P := P) (id := id) (vdlist_ok hC hcall (c0 := c0) (cs := cs) ops.toList s u q s1 u1 h1 E a w m hS hM hf _ (fun _ _ _ _ h => h))
    simpa using this
   ·exact other _ h
  ·exact other _ h
def DefOk (P : Program) (dcall : DefF) : Prop := ∀ f args u hp r u' hp', dcall f args u hp = some (r, u', hp') → Ext hp hp' ∧ callT P f = true ∧
 ∀ E w vargs m, Rep E hp.t w → GlE E → renL E args = some vargs → FMR E u m → Free E hp.nx hp'.nx → CallsD P f vargs.toArray m w fun e m' w' => ∃ E', Out E hp w E' hp' w' ∧ FMR E' u' m' ∧ match r with
  | .v v => ∃ x, ren E' v = some x ∧ e = .returned x
  | .pan v => ∃ x, ren E' v = some x ∧ e = .panicked [{ v := x, recovered := false }]
theorem vdcall_ok (hF : ∀ f fn, C.F.get f = some fn → fn.body.isSome = true → callT P f = true) {extd : DefF} (hx : DefOk P extd) (n : Nat) : DefOk P (vdcall C call extd n) := by
 intro f args u hp r u' hp' h
 unfold vdcall at h
 split at h
 ·rename_i q hq
  simp only [Option.some.injEq] at h
  subst h
  exact hx _ _ _ _ _ _ _ hq
 ·simp only [Option.bind_eq_some_iff] at h
  obtain ⟨fn, hfn, body, hbody, s, hs, ⟨ex, s1, u1⟩, h1, h⟩ := h
  have hext := vdcode_ext hcall n _ _ _ _ _ _ h1
  have hfin : hp' = s1.hp ∧ u' = u1 ∧ s1.df = [] ∧ ((∃ x, ex = .pan x ∧ r = .pan x) ∨ ((ex = .norm ∨ ex = .ret) ∧ ∃ v, endV C fn s1.fr s1.hp = some v ∧ r = .v v)) := by
   simp only at h
   split at h
   ·rename_i hdf
    split at h
    ·simp at h
    ·simp only [Option.some.injEq, Prod.mk.injEq] at h
     obtain ⟨rfl, rfl, rfl⟩ := h
     exact ⟨rfl, rfl, hdf, .inl ⟨_, rfl, rfl⟩⟩
    ·rename_i hn1 hn2
     simp only [Option.bind_eq_some_iff, Option.some.injEq, Prod.mk.injEq] at h
     obtain ⟨v, hv, rfl, rfl, rfl⟩ := h
     refine ⟨rfl, rfl, hdf, .inr ⟨?_, v, hv, rfl⟩⟩
     cases ex <;> first | exact .inl rfl | exact .inr rfl | exact absurd rfl (hn1 _) | exact absurd rfl (hn2 _)
   ·simp at h
  obtain ⟨rfl, rfl, hdf, hcase⟩ := hfin
  have hsp : s.hp = hp := by
   unfold enterV at hs
   split at hs
   ·simp only [Option.some.injEq] at hs; rw [← hs]
   ·simp at hs
  rw [hsp] at hext
  refine ⟨hext, hF f fn hfn (by rw [hbody]; rfl), fun E w vargs m hR hG hA hM hf => ?_⟩
  obtain ⟨_, hS⟩ := enterV_ok hs hR hG hA
  refine callsD_of_wpS (hC.F f fn hfn).1 hbody fun c0 cs hc0 => ?_
  have hc : ({ c0 with mode := m } : Frame) = c0 := by subst hc0; rfl
  have := vdcode_ok hC hcall (c0 := c0) (cs := cs) n _ _ _ _ _ _ h1 E _ w m hS hM (by rw [hsp]; exact hf)
  rw [hc] at this
  refine wpS_mono this fun e a' cs' w' hp => ?_
  obtain ⟨E', m', g1, g2, g3, g4, rfl⟩ := hp
  have hdf' : a'.defers = [] := by
   have := g3.df
   rw [hdf] at this
   cases ha : a'.defers with
   | nil => rfl
   | cons d ds => rw [ha] at this; exact this.elim
  rw [hsp] at g2
  rcases hcase with ⟨x, rfl, rfl⟩ | ⟨hex, v, hv, rfl⟩
  ·cases e <;> first | exact g1.elim | skip
   obtain ⟨X, k1, rfl⟩ := g1
   exact ⟨hdf', m', rfl, E', g2, g4, X, k1, rfl⟩
  ·obtain ⟨x, k1, k2⟩ := endV_ok hC g3.fr g3.rep hv
   rcases hex with rfl | rfl <;> cases e <;> first | exact g1.elim | exact ⟨hdf', m', rfl, x, k2, E', g2, g4, x, k1, rfl⟩
omit hC hcall in
theorem vleave_ext {dcall : DefF} (hd : DefOk P dcall) {res : Hp → Option V} : ∀ (l : List (Nat × List V)) (u : FM) (hp : Hp) (r : VR) (hp' : Hp), vleave dcall res l u hp = some (r, hp') → Ext hp hp'
 | [], u, hp, r, hp', h => by
  simp only [vleave] at h
  split at h
  ·simp only [Option.bind_eq_some_iff, Option.some.injEq, Prod.mk.injEq] at h
   obtain ⟨_, _, _, rfl⟩ := h
   exact ext_refl _
  ·simp only [Option.some.injEq, Prod.mk.injEq] at h
   rw [← h.2]; exact ext_refl _
  ·simp at h
 | d :: ds, u, hp, r, hp', h => by
  simp only [vleave, Option.bind_eq_some_iff] at h
  obtain ⟨⟨r1, u1, hp1⟩, h1, h⟩ := h
  have k1 := (hd _ _ _ _ _ _ _ h1).1
  split at h
  ·exact k1.trans (vleave_ext hd ds _ _ _ _ h)
  ·split at h
   ·exact k1.trans (vleave_ext hd ds _ _ _ _ h)
   ·simp at h
omit hC hcall in
theorem vleave_ok {dcall : DefF} (hd : DefOk P dcall) {fn : Func} {tmps : Array Value} {res : Hp → Option V} {R : Ending → World → Prop} : ∀ (l : List (Nat × List V)) (u : FM) (hp : Hp) (r : VR) (hp' : Hp), vleave dcall res l u hp = some (r, hp') →
  ∀ E w dl m, Rep E hp.t w → GlE E → DfR E l dl → FMR E u m → Free E hp.nx hp'.nx → (∀ E' hp1 w' v, E.le E' → Rep E' hp1.t w' → res hp1 = some v → ∃ x, ren E' v = some x ∧ (results fn tmps).run P w' = .ok x w') → (∀ e w', CallRes E hp w r hp' e w' → R e w') → Leaves P fn tmps R dl m w
 | [], u, hp, r, hp', h, E, w, dl, m, hR, hG, hD, hM, hf, hres, hK => by
  cases dl with
  | cons d ds => exact hD.elim
  | nil =>
   simp only [vleave] at h
   split at h
   ·simp only [Option.bind_eq_some_iff, Option.some.injEq, Prod.mk.injEq] at h
    obtain ⟨v, hv, rfl, rfl⟩ := h
    cases m <;> first | exact hM.elim | skip
    obtain ⟨x, h1, h2⟩ := hres E hp w v (Env.le_refl E) hR hv
    exact ⟨x, h2, hK _ _ ⟨E, out_refl hR, x, h1, rfl⟩⟩
   ·simp only [Option.some.injEq, Prod.mk.injEq] at h
    obtain ⟨rfl, rfl⟩ := h
    cases m <;> first | exact hM.elim | skip
    obtain ⟨X, h1, rfl⟩ := hM
    exact hK _ _ ⟨E, out_refl hR, X, h1, rfl⟩
   ·simp at h
 | d :: ds, u, hp, r, hp', h, E, w, dl, m, hR, hG, hD, hM, hf, hres, hK => by
  cases dl with
  | nil => exact hD.elim
  | cons dd dds =>
   obtain ⟨⟨cap, ht, hA⟩, hD'⟩ := hD
   simp only [vleave, Option.bind_eq_some_iff] at h
   obtain ⟨⟨r1, u1, hp1⟩, h1, h⟩ := h
   obtain ⟨k1, k2, k3⟩ := hd _ _ _ _ _ _ _ h1
   have hk2 : hp1.nx ≤ hp'.nx := by
    simp only at h
    split at h
    ·exact (vleave_ext hd ds _ _ _ _ h).nx
    ·split at h
     ·exact (vleave_ext hd ds _ _ _ _ h).nx
     ·simp at h
   refine ⟨hM.run, .func d.1, cap, d.1, (dd.args.toList ++ cap.toList).toArray, ht, ?_, ?_⟩
   ·rw [ht]
    simp only [invoke]
    rw [run_callT k2]
    congr 2
    apply Array.ext'; simp
   ·refine CallsD.mono (k3 E w _ m hR hG hA hM (hf.mono (Nat.le_refl _) hk2)) fun e m' w' ⟨E', g1, g2, g3⟩ => ?_
    have next : ∀ (u2 : FM) (m2 : FrameMode), FMR E' u2 m2 → vleave dcall res ds u2 hp1 = some (r, hp') → Leaves P fn tmps R dds m2 w' := fun u2 m2 hM2 h2 =>
     vleave_ok hd ds u2 hp1 r hp' h2 E' w' dds m2 g1.rep (fun g hg => g1.le _ _ (hG g hg)) (hD'.mono g1.le) hM2 (g1.free (hf.mono k1.nx (Nat.le_refl _)) (Nat.le_refl _)) (fun E2 hp2 w2 v hle => hres E2 hp2 w2 v (Env.le_trans g1.le hle))
      fun e2 w2 ⟨E2, q1, q2⟩ => hK e2 w2 ⟨E2, g1.trans q1 k1.nx hk2, q2⟩
    cases r1 with
    | v v =>
     obtain ⟨x, _, rfl⟩ := g3
     exact next _ _ g2.settle h
    | pan v =>
     obtain ⟨x, hx, rfl⟩ := g3
     simp only at h
     split at h
     ·cases m' <;> first | exact g2.elim | skip
      exact next (.pan v false) (.panicking [{ v := x, recovered := false }]) ⟨x, hx, rfl⟩ h
     ·simp at h
end
theorem vcall_ok {P : Program} {C : Cx} (hC : COk P C) (hF : ∀ f fn, C.F.get f = some fn → fn.body.isSome = true → callT P f = true) {ext : CallF} {extd : DefF} (he : CallOk P ext) (hd : DefOk P extd) : ∀ n, CallOk P (vcall C ext extd n)
 | 0 => fun f args hp r hp' h => by simp [vcall] at h
 | n + 1 => by
  have ih := vcall_ok hC hF he hd n
  intro f args hp r hp' h
  unfold vcall at h
  split at h
  ·rename_i q hq
   simp only [Option.some.injEq] at h
   subst h
   exact he _ _ _ _ _ hq
  ·simp only [Option.bind_eq_some_iff] at h
   obtain ⟨fn, hfn, body, hbody, s, hs, ⟨ex, s1⟩, h1, u, hu, h⟩ := h
   have hsp : s.hp = hp := by
    unfold enterV at hs
    split at hs
    ·simp only [Option.some.injEq] at hs; rw [← hs]
    ·simp at hs
   have k1 := vcode_ext ih n _ _ _ _ h1
   rw [hsp] at k1
   have hdd := vdcall_ok hC ih hF hd n
   have k2 := vleave_ext hdd _ _ _ _ _ h
   refine ⟨k1.trans k2, hF f fn hfn (by rw [hbody]; rfl), fun E w vargs hR hG hA hf => ?_⟩
   obtain ⟨_, hS⟩ := enterV_ok hs hR hG hA
   refine calls_of_wp_defers (hC.F f fn hfn).1 hbody (wp_mono ((vcode_ok hC ih n).1 _ _ _ _ h1 E _ w hS (by rw [hsp]; exact hf.mono (Nat.le_refl _) k2.nx)) fun e a' w' hp => ?_)
   obtain ⟨E', g1, g2, g3⟩ := hp
   rw [hsp] at g2
   have fin : ∀ m, FMR E' u m → Leaves P fn a'.tmps (CallRes E _ w r hp') a'.defers m w' := fun m hM =>
    vleave_ok hdd _ _ _ _ _ h E' w' a'.defers m g3.rep g3.fr.gl g3.df hM (g2.free (hf.mono k1.nx (Nat.le_refl _)) (Nat.le_refl _)) (fun E2 hp2 w2 v hle hR2 hv => endV_ok hC (g3.fr.mono hle) hR2 hv) fun e2 w2 ⟨E2, q1, q2⟩ => ⟨E2, g2.trans q1 k1.nx k2.nx, q2⟩
   cases ex with
   | exit id => simp [exFM] at hu
   | norm =>
    simp only [exFM, Option.some.injEq] at hu
    subst hu
    cases e <;> first | exact g1.elim | exact fin .returning trivial
   | ret =>
    simp only [exFM, Option.some.injEq] at hu
    subst hu
    cases e <;> first | exact g1.elim | exact fin .returning trivial
   | pan x =>
    simp only [exFM, Option.some.injEq] at hu
    subst hu
    cases e <;> first | exact g1.elim | skip
    obtain ⟨X, h2, rfl⟩ := g1
    exact fin (.panicking _) ⟨X, h2, rfl⟩
end Go.Proofs.Ytabpegdalmagpaa
