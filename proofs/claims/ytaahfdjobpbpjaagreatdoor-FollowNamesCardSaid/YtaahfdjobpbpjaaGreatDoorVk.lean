/- Vk: the machine's maps written, walked over, against the world's. By this project. -/
import Derived.Test.YtaahfdjobpbpjaaGreatDoorVj
set_option linter.unusedVariables false
set_option linter.unusedSectionVars false
set_option linter.unusedSimpArgs false
namespace Go.Proofs.YtaahfdjobpbpjaaGreatDoor
open Go.RowKit Go.Extern.Stop

section
variable {P : Program} {C : Cx} (hC : COk P C) {E : Env} {hp : Hp} {w : World} {fr : Tr V} {a : Act}
theorem out_map {h b : Nat} {o : VO} {es' : List (V × V × Nat)} {l' : List MapEntry} {x : Obj} {clock : Nat} (hro : roB h = false) (hR : Rep E hp.t w) (hg : hp.t.get h = some o) (he : E h = some (b, 0, 0)) (hb : w.heap[b]? = some x) (hl : renEs E es' = some l') :
    Out E hp w E (hp.put h (some (.map es' clock))) { w with heap := w.heap.setIfInBounds b (.map l'.toArray clock) } := by
  have hlt := lt_of_heap hb
  exact out_put hro hR hg he ⟨rfl, l', hl, rfl⟩ (by simp [hlt]) (fun k hk => by simp [Ne.symm hk]) (by simp) rfl rfl rfl
theorem renEs_app {es fs : List (V × V × Nat)} {l m : List MapEntry} (h : renEs E es = some l) (k : renEs E fs = some m) : renEs E (es ++ fs) = some (l ++ m) := by
  induction es generalizing l with
  | nil => simp [renEs, mapO_nil] at h; subst h; simpa using k
  | cons e r ih =>
    obtain ⟨kk, v, t, h1, h2, h3, rfl⟩ := renEs_cons h
    exact renEs_mk h1 h2 (ih h3)
theorem renEs_mod {f : V × V × Nat → V × V × Nat} {g : MapEntry → MapEntry} : ∀ {es : List (V × V × Nat)} {l : List MapEntry} {i : Nat}, renEs E es = some l →
    (∀ e k v, es[i]? = some e → ren E e.1 = some k → ren E e.2.1 = some v → ∃ k' v', ren E (f e).1 = some k' ∧ ren E (f e).2.1 = some v' ∧ g ⟨k, v, e.2.2⟩ = ⟨k', v', (f e).2.2⟩) → renEs E (modL f es i) = some (l.toArray.modify i g).toList
  | [], l, i, h, _ => by
    simp [renEs, mapO_nil] at h
    subst h
    simp [modL, renEs, mapO_nil]
  | e :: r, l, 0, h, hf => by
    obtain ⟨k, v, t, h1, h2, h3, rfl⟩ := renEs_cons h
    obtain ⟨k', v', g1, g2, g3⟩ := hf e k v rfl h1 h2
    have := renEs_mk (e := f e) g1 g2 h3
    simp only [modL]
    rw [this, ← g3]
    congr 1
    all_goals simp [Array.toList_modify]
  | e :: r, l, i + 1, h, hf => by
    obtain ⟨k, v, t, h1, h2, h3, rfl⟩ := renEs_cons h
    have ih := renEs_mod (i := i) h3 (fun e k v he => hf e k v (by simpa using he))
    have := renEs_mk (e := e) h1 h2 ih
    simp only [modL]
    rw [this]
    congr 1
    all_goals simp [Array.toList_modify]
theorem renEs_get {es : List (V × V × Nat)} {l : List MapEntry} (h : renEs E es = some l) {i : Nat} {e : V × V × Nat} (he : es[i]? = some e) : ∃ k v, ren E e.1 = some k ∧ ren E e.2.1 = some v ∧ l[i]? = some ⟨k, v, e.2.2⟩ := by
  induction es generalizing l i with
  | nil => simp at he
  | cons q r ih =>
    obtain ⟨k, v, t, h1, h2, h3, rfl⟩ := renEs_cons h
    cases i with
    | zero => simp at he; subst he; exact ⟨k, v, h1, h2, rfl⟩
    | succ i => simpa using ih h3 (by simpa using he)
theorem renEs_len {es : List (V × V × Nat)} {l : List MapEntry} (h : renEs E es = some l) : l.length = es.length := by
  induction es generalizing l with
  | nil => simp [renEs, mapO_nil] at h; subst h; rfl
  | cons q r ih =>
    obtain ⟨k, v, t, h1, h2, h3, rfl⟩ := renEs_cons h
    simp [ih h3]
include hC
theorem vmapup_ok {t : TypeId} {m k v : V} {M K X : Value} {hp' : Hp} (hR : Rep E hp.t w) (h : vmapup C hp t m k v = some hp') (hM : ren E m = some M) (hK : ren E k = some K) (hX : ren E v = some X) : OkU P E hp w (Instr.mapUpdate t M K X) hp' := by
  simp only [vmapup, Option.bind_eq_some_iff] at h
  obtain ⟨ti, hti, h⟩ := h
  have hT := tiV_ok hC hti
  split at h
  · rename_i kt et hd
    have hu := hT.map hd
    split at h
    · rename_i r hk
      split at h
      · rename_i es clock hg
        obtain ⟨hg, hro⟩ := getW_some hg
        simp only [Option.bind_eq_some_iff] at h
        obtain ⟨q, hq, h⟩ := h
        obtain ⟨b, l, g1, g2, g3⟩ := rep_map hR hg
        simp only [ren, g1, Option.map_some, Option.some.injEq] at hM
        subst hM
        obtain ⟨rr, f1, f2⟩ := findKey_ok hC hR hk hK hq g2
        have hck := keyFit_check hC hk hK false w
        cases q with
        | none =>
          simp only [Option.some.injEq] at h
          subst h
          simp only [FindR] at f2
          subst f2
          refine ⟨Nat.le_refl _, fun _ => ⟨_, E, ?_, out_map (clock := clock + 1) (l' := l ++ [⟨K, X, clock⟩]) hro hR hg g1 g3 (renEs_app g2 (renEs_mk (e := (k, v, clock)) hK hX rfl))⟩⟩
          simp only [Instr.mapUpdate, Sem.run_bind, run_underlying hu w, Result.andThen_ok, MapKept.run_getObj_map g3, hck, f1]
          rw [MapKept.run_setObj_map _ g3]
          simp
        | some jv =>
          simp only [Option.some.injEq] at h
          subst h
          obtain ⟨_, kk, bn, x, k2, k3, k4, k5, rfl⟩ := f2
          simp only [Nat.sub_zero] at k2
          obtain ⟨K', V', e1, e2, e3⟩ := renEs_get g2 k2
          rw [k3] at e1
          obtain rfl := Option.some.inj e1
          refine ⟨Nat.le_refl _, fun _ => ⟨_, E, ?_, out_map (clock := clock) hro hR hg g1 g3 (renEs_mod (g := fun e => { e with key := K, val := X }) g2 (fun e kx vx he _ _ => ⟨K, X, hK, hX, rfl⟩))⟩⟩
          simp only [Instr.mapUpdate, Sem.run_bind, run_underlying hu w, Result.andThen_ok, MapKept.run_getObj_map g3, hck, f1]
          have : (((l.toArray)[jv.1]?).map (·.key)).getD K = K := by simp [e3]
          simp only [this, Instr.keyThatStays, k4, if_true, Sem.run_pure, Result.andThen_ok]
          rw [MapKept.run_setObj_map _ g3]
      · simp at h
    · simp at h
  · simp at h
theorem vmapentry_ok {t : TypeId} {m k v : V} {M K : Value} {hp' : Hp} (hR : Rep E hp.t w) (h : vmapentry C hp t m k = some (v, hp')) (hM : ren E m = some M) (hK : ren E k = some K) : OkV P E hp w (Instr.mapEntry t M K) v hp' := by
  simp only [vmapentry, Option.bind_eq_some_iff] at h
  obtain ⟨ti, hti, h⟩ := h
  have hT := tiV_ok hC hti
  split at h
  · rename_i kt et hd
    have hu := hT.map hd
    split at h
    · rename_i r hk
      split at h
      · rename_i es clock hg
        obtain ⟨hg, hro⟩ := getW_some hg
        simp only [Option.bind_eq_some_iff] at h
        obtain ⟨q, hq, h⟩ := h
        obtain ⟨b, l, g1, g2, g3⟩ := rep_map hR hg
        simp only [ren, g1, Option.map_some, Option.some.injEq] at hM
        subst hM
        obtain ⟨rr, f1, f2⟩ := findKey_ok hC hR hk hK hq g2
        have hck := keyFit_check hC hk hK false w
        cases q with
        | none =>
          simp only [Option.bind_eq_some_iff, Option.some.injEq, Prod.mk.injEq] at h
          obtain ⟨ei, hei, z, hz, rfl, rfl⟩ := h
          obtain ⟨zv, z1, z2⟩ := (tiV_ok hC hei).zero hz w
          simp only [FindR] at f2
          subst f2
          refine ⟨Nat.le_refl _, fun _ => ⟨.tuple #[zv, .int .i64 clock], _, E, ?_, by simp [ren, renL, z2 E], out_map (clock := clock + 1) (l' := l ++ [⟨K, zv, clock⟩]) hro hR hg g1 g3 (renEs_app g2 (renEs_mk (e := (k, z, clock)) hK (z2 E) rfl))⟩⟩
          simp only [Instr.mapEntry, Sem.run_bind, run_underlying hu w, Result.andThen_ok, MapKept.run_getObj_map g3, hck, f1, z1]
          rw [MapKept.run_setObj_map _ g3]
          simp [goInt]
        | some jv =>
          simp only [Option.bind_eq_some_iff, Option.some.injEq, Prod.mk.injEq] at h
          obtain ⟨e, he, rfl, rfl⟩ := h
          obtain ⟨_, kk, bn, x, k2, k3, k4, k5, rfl⟩ := f2
          simp only [Nat.sub_zero] at k2
          rw [getL_eq, k2] at he
          obtain rfl := Option.some.inj he
          obtain ⟨K', V', e1, e2, e3⟩ := renEs_get g2 k2
          rw [k3] at e1
          obtain rfl := Option.some.inj e1
          refine ⟨Nat.le_refl _, fun _ => ⟨.tuple #[x, .int .i64 bn], _, E, ?_, by simp [ren, renL, k5], out_map (clock := clock) hro hR hg g1 g3 (renEs_mod (g := fun e => { e with key := K }) g2 (fun e kx vx he _ hv => ⟨K, vx, hK, hv, rfl⟩))⟩⟩
          simp only [Instr.mapEntry, Sem.run_bind, run_underlying hu w, Result.andThen_ok, MapKept.run_getObj_map g3, hck, f1]
          have : (((l.toArray)[jv.1]?).map (·.key)).getD K = K := by simp [e3]
          have hb : ((((l.toArray)[jv.1]?).map (fun x : MapEntry => (x.born : Int))).getD 0) = (bn : Int) := by simp [e3]
          simp only [this, Instr.keyThatStays, k4, if_true, Sem.run_pure, Result.andThen_ok, Sem.run_bind]
          rw [MapKept.run_setObj_map _ g3]
          simp only [Result.andThen_ok, hb]
          simp [goInt]
      · simp at h
    · simp at h
  · simp at h
omit hC in
theorem putBorn_ok {n : Nat} {v : V} {X : Value} (hX : ren E v = some X) : ∀ {es es' : List (V × V × Nat)} {l : List MapEntry}, putBorn n v es = some es' → renEs E es = some l →
    ∃ i, (l.findIdx? fun e => (e.born : Int) == (n : Int)) = some i ∧ renEs E es' = some (l.toArray.modify i fun e => { e with val := X }).toList
  | [], es', l, h, hl => by simp [putBorn] at h
  | e :: r, es', l, h, hl => by
    obtain ⟨k, vv, t, h1, h2, h3, rfl⟩ := renEs_cons hl
    simp only [putBorn] at h
    split at h
    · rename_i hb
      have hb := Nat.eq_of_beq_eq_true hb
      simp only [Option.some.injEq] at h
      subst h
      refine ⟨0, by simp [List.findIdx?_cons, hb], ?_⟩
      have := renEs_mk (e := (e.1, v, e.2.2)) h1 hX h3
      rw [this]
      congr 1
      all_goals simp [Array.toList_modify]
    · rename_i hb
      simp only [Option.bind_eq_some_iff, Option.some.injEq] at h
      obtain ⟨r', hr, rfl⟩ := h
      obtain ⟨i, g1, g2⟩ := putBorn_ok hX hr h3
      have hne : ((e.2.2 : Int) == (n : Int)) = false := by
        rw [Bool.eq_false_iff]
        intro e'
        have : e.2.2 = n := by have := beq_iff_eq.1 e'; omega
        rw [this] at hb
        simp [Nat.beq_eq] at hb
      refine ⟨i + 1, by simp [List.findIdx?_cons, hne, g1], ?_⟩
      have := renEs_mk (e := e) h1 h2 g2
      rw [this]
      congr 1
      all_goals simp [Array.toList_modify]
omit hC in
theorem ventryst_ok {t : TypeId} {m st v : V} {M S X : Value} {hp' : Hp} (hR : Rep E hp.t w) (h : ventryst hp m st v = some hp') (hM : ren E m = some M) (hS : ren E st = some S) (hX : ren E v = some X) : OkU P E hp w (Instr.entryStore t M S X) hp' := by
  unfold ventryst at h
  split at h
  · rename_i r
    split at h
    · rename_i es clock hg
      obtain ⟨hg, hro⟩ := getW_some hg
      simp only [Option.bind_eq_some_iff, Option.some.injEq, natV] at h
      obtain ⟨n, ⟨z, hz, hn⟩, es', hes, rfl⟩ := h
      have := asNat_some hn
      subst this
      cases st <;> simp [intV?] at hz
      subst hz
      simp only [ren, Option.some.injEq] at hS
      subst hS
      obtain ⟨b, l, g1, g2, g3⟩ := rep_map hR hg
      simp only [ren, g1, Option.map_some, Option.some.injEq] at hM
      subst hM
      obtain ⟨i, f1, f2⟩ := putBorn_ok hX hes g2
      refine ⟨Nat.le_refl _, fun _ => ⟨_, E, ?_, out_map (clock := clock) hro hR hg g1 g3 f2⟩⟩
      have hfi : (l.toArray.findIdx? fun e => (e.born : Int) == (n : Int)) = some i := by simpa using f1
      simp only [Instr.entryStore, Sem.run_bind, Result.andThen_ok, MapKept.run_getObj_map g3, asInt, asIntOf, Sem.run_pure, hfi]
      rw [MapKept.run_setObj_map _ g3]
    · simp at h
  · simp at h
omit hC in
theorem eraseL_eq {α : Type} : ∀ (l : List α) (i : Nat), eraseL l i = l.eraseIdx i
  | [], _ => rfl
  | x :: r, 0 => rfl
  | x :: r, i + 1 => by simp [eraseL, eraseL_eq r i]
omit hC in
theorem renEs_erase : ∀ {es : List (V × V × Nat)} {l : List MapEntry} {i : Nat}, renEs E es = some l → renEs E (es.eraseIdx i) = some (l.eraseIdx i)
  | [], l, i, h => by simp [renEs, mapO_nil] at h; subst h; simp [renEs, mapO_nil]
  | e :: r, l, 0, h => by
    obtain ⟨k, v, t, h1, h2, h3, rfl⟩ := renEs_cons h
    exact h3
  | e :: r, l, i + 1, h => by
    obtain ⟨k, v, t, h1, h2, h3, rfl⟩ := renEs_cons h
    exact renEs_mk h1 h2 (renEs_erase h3)
theorem vdelete_ok {t ty : TypeId} {ts : Array TypeId} {m k : V} {M K : Value} {hp' : Hp} (hR : Rep E hp.t w) (hts : ts[0]? = some t) (h : vdelete C hp t m k = some hp') (hM : ren E m = some M) (hK : ren E k = some K) : OkV P E hp w (Builtin.delete_ ts ty #[M, K]) (.tup []) hp' := by
  simp only [vdelete, Option.bind_eq_some_iff] at h
  obtain ⟨ti, hti, h⟩ := h
  have hT := tiV_ok hC hti
  split at h
  · rename_i kt et hd
    have hu := hT.map hd
    split at h
    · rename_i hk
      simp only [Option.some.injEq] at h
      subst h
      simp only [ren, Option.some.injEq] at hM
      subst hM
      have hck := keyFit_check hC hk hK true w
      refine okv_same hR (x := .tuple #[]) ?_ rfl
      simp [Builtin.delete_, hts, run_underlying hu w, hck]
    · rename_i r hk
      split at h
      · rename_i es clock hg
        obtain ⟨hg, hro⟩ := getW_some hg
        simp only [Option.bind_eq_some_iff] at h
        obtain ⟨q, hq, h⟩ := h
        obtain ⟨b, l, g1, g2, g3⟩ := rep_map hR hg
        simp only [ren, g1, Option.map_some, Option.some.injEq] at hM
        subst hM
        obtain ⟨rr, f1, f2⟩ := findKey_ok hC hR hk hK hq g2
        have hck := fun em => keyFit_check hC hk hK em w
        cases q with
        | none =>
          simp only [Option.some.injEq] at h
          subst h
          simp only [FindR] at f2
          subst f2
          refine ⟨Nat.le_refl _, fun _ => ⟨.tuple #[], _, E, ?_, rfl, out_map (clock := clock) hro hR hg g1 g3 g2⟩⟩
          simp only [Builtin.delete_, Sem.run_bind, run_underlying hu w, Result.andThen_ok, MapKept.run_getObj_map g3, hck, f1, hts]
          simp only [List.getElem?_toArray, List.getElem?_cons_zero, List.getElem?_cons_succ, Sem.run_bind, run_underlying hu w, Result.andThen_ok, MapKept.run_getObj_map g3, hck, f1]
          rw [MapKept.run_setObj_map _ g3]
          rfl
        | some jv =>
          simp only [Option.some.injEq] at h
          subst h
          obtain ⟨_, kk, bn, x, k2, k3, k4, k5, rfl⟩ := f2
          have hj : jv.1 < l.length := by
            rw [renEs_len g2]
            exact (List.getElem?_eq_some_iff.1 k2).1
          refine ⟨Nat.le_refl _, fun _ => ⟨.tuple #[], _, E, ?_, rfl, out_map (clock := clock) hro hR hg g1 g3 (by rw [eraseL_eq]; exact renEs_erase g2)⟩⟩
          simp only [List.getElem?_toArray, List.getElem?_cons_zero, List.getElem?_cons_succ, Builtin.delete_, Sem.run_bind, run_underlying hu w, Result.andThen_ok, MapKept.run_getObj_map g3, hck, f1, hts]
          rw [MapKept.run_setObj_map _ g3]
          simp [Array.eraseIdxIfInBounds, hj]
      · simp at h
    · simp at h
  · simp at h
omit hC in
theorem memN_ok (n : Nat) : ∀ (l : List Nat), memN n l = l.contains n
  | [] => rfl
  | x :: r => by
    simp only [memN, List.contains_cons]
    rw [memN_ok n r]
    by_cases h : x = n
    · subst h; simp [Nat.beq_eq]
    · have : Nat.beq x n = false := by rw [Bool.eq_false_iff]; intro e; exact h (Nat.eq_of_beq_eq_true e)
      rw [this]
      have : (n == x) = false := by simpa using fun e => h e.symm
      simp [this]
omit hC in
theorem renEs_filter {p : Nat → Bool} : ∀ {es : List (V × V × Nat)} {l : List MapEntry}, renEs E es = some l → renEs E (es.filter fun e => p e.2.2) = some (l.filter fun e => p e.born)
  | [], l, h => by simp [renEs, mapO_nil] at h; subst h; rfl
  | e :: r, l, h => by
    obtain ⟨k, v, t, h1, h2, h3, rfl⟩ := renEs_cons h
    have ih := renEs_filter (p := p) h3
    by_cases hp : p e.2.2 = true
    · simp only [List.filter_cons, hp, if_true]
      exact renEs_mk h1 h2 ih
    · simp only [List.filter_cons, hp]
      exact ih
omit hC in
theorem renEs_all {p : Nat → Bool} : ∀ {es : List (V × V × Nat)} {l : List MapEntry}, renEs E es = some l → (es.all fun e => p e.2.2) = (l.all fun e => p e.born)
  | [], l, h => by simp [renEs, mapO_nil] at h; subst h; rfl
  | e :: r, l, h => by
    obtain ⟨k, v, t, h1, h2, h3, rfl⟩ := renEs_cons h
    simp only [List.all_cons]
    rw [renEs_all h3]
omit hC in
theorem vnext_ok {ty : TypeId} {it v : V} {I : Value} {hp' : Hp} (hR : Rep E hp.t w) (h : vnext hp it = some (v, hp')) (hI : ren E it = some I) : OkV P E hp w (Instr.next I false ty) v hp' := by
  unfold vnext at h
  split at h
  · rename_i r
    simp only [ren, Option.map_eq_some_iff] at hI
    obtain ⟨⟨b, k, ex⟩, he, rfl⟩ := hI
    split at h
    · rename_i s1 s2 s3 hg
      obtain ⟨hg, hro⟩ := getW_some hg
      simp only [Option.some.injEq, Prod.mk.injEq] at h
      obtain ⟨rfl, rfl⟩ := h
      obtain ⟨e, x, h1, h2, h3⟩ := hR.has r _ hg
      rw [he] at h1
      obtain rfl := Option.some.inj h1
      obtain ⟨g0, rfl⟩ := h3
      simp only [Prod.mk.injEq] at g0
      obtain ⟨rfl, rfl⟩ := g0
      refine okv_same hR (x := .tuple #[.bool false]) ?_ (by simp [ren, renL])
      simp [Instr.next, getObj, Sem.run, h2]
    · rename_i m since seen last hg
      obtain ⟨hg, hro⟩ := getW_some hg
      split at h
      · rename_i es clock hm
        obtain ⟨e, x, h1, h2, h3⟩ := hR.has r _ hg
        rw [he] at h1
        obtain rfl := Option.some.inj h1
        obtain ⟨g0, f, hf, rfl⟩ := h3
        simp only [Prod.mk.injEq] at g0
        obtain ⟨rfl, rfl⟩ := g0
        obtain ⟨b2, l, g1, g2, g3⟩ := rep_map hR hm
        rw [hf] at g1
        obtain rfl := Option.some.inj g1
        have hb2 : (w.heap[b2]?) = some (.map l.toArray clock) := g3
        have hlen := renEs_len g2
        split at h
        · simp at h
        · rename_i hall
          have hall' : (!seen.toArray.isEmpty && !l.toArray.isEmpty && l.toArray.all (fun x => decide (x.born ≥ last))) = false := by
            have e1 : (es.all fun e => Nat.ble last e.2.2) = (l.all fun e => Nat.ble last e.born) := renEs_all (p := fun n => Nat.ble last n) g2
            rw [e1] at hall
            have e2 : es.isEmpty = l.isEmpty := by cases es <;> cases l <;> simp at hlen <;> rfl
            rw [e2] at hall
            rw [← hall]
            simp only [List.isEmpty_toArray, List.all_toArray]
            congr 2
            funext x
            rw [Bool.eq_iff_iff]
            simp
          have hfl : (l.toArray.filter fun e => !seen.toArray.contains e.born) = (l.filter fun e => !memN e.born seen).toArray := by
            simp [memN_ok]
          have hfe := renEs_filter (p := fun n => !memN n seen) g2
          split at h
          · rename_i hnil
            rw [hnil] at hfe
            simp only [renEs, mapO_nil, Option.some.injEq] at hfe
            simp only [Option.some.injEq, Prod.mk.injEq] at h
            obtain ⟨rfl, rfl⟩ := h
            refine okv_same hR (x := .tuple #[.bool false]) ?_ (by simp [ren, renL])
            simp only [Instr.next, getObj, Sem.run_bind, Sem.run, h2, Result.andThen_ok, hb2, hall', Bool.false_eq_true, if_false, hfl, ← hfe]
            simp [choose, Sem.run, Question.forced]
          · rename_i e' he'
            rw [he'] at hfe
            obtain ⟨kk, vv, t, k1, k2, k3, k4⟩ := renEs_cons hfe
            simp only [renEs, mapO_nil, Option.some.injEq] at k3
            subst k3
            split at h
            · rename_i hlt
              have hlt : e'.2.2 < since := by simpa [Nat.blt_eq] using hlt
              simp only [Option.some.injEq, Prod.mk.injEq] at h
              obtain ⟨rfl, rfl⟩ := h
              refine ⟨Nat.le_refl _, fun _ => ⟨.tuple #[.bool true, kk, vv], { w with heap := w.heap.setIfInBounds b (.mapIter (some b2) since (seen ++ [e'.2.2]).toArray clock) }, E, ?_, by simp [ren, renL, k1, k2], ?_⟩⟩
              · simp only [Instr.next, getObj, Sem.run_bind, Sem.run, h2, Result.andThen_ok, hb2, hall', Bool.false_eq_true, if_false, hfl, k4]
                simp [choose, Sem.run, Question.forced, hlt, setObj, h2]
              · have hlt' := lt_of_heap h2
                exact out_put hro hR hg he ⟨rfl, _, hf, rfl⟩ (by simp [hlt']) (fun q hq => by simp [Ne.symm hq]) (by simp) rfl rfl rfl
            · simp at h
          · simp at h
      · simp at h
    · simp at h
  · simp at h
omit hC in
theorem lastN_ok : ∀ (l : List Nat), lastN l = l.toArray.back?
  | [] => rfl
  | [x] => by simp [lastN]
  | x :: y :: r => by
    have := lastN_ok (y :: r)
    simp only [lastN] at this ⊢
    rw [this]
    simp [List.getLast?_cons_cons]
omit hC in
theorem findBorn_ok {n : Nat} : ∀ {es : List (V × V × Nat)} {l : List MapEntry} {e : V × V × Nat}, renEs E es = some l → findBorn n es = some e → ∃ k x b, l.find? (fun y => y.born == n) = some ⟨k, x, b⟩ ∧ ren E e.1 = some k ∧ ren E e.2.1 = some x
  | [], l, e, h, hf => by simp [findBorn] at hf
  | y :: r, l, e, h, hf => by
    obtain ⟨k, v, t, h1, h2, h3, rfl⟩ := renEs_cons h
    simp only [findBorn] at hf
    split at hf
    · rename_i hb
      have hb := Nat.eq_of_beq_eq_true hb
      simp only [Option.some.injEq] at hf
      subst hf
      exact ⟨k, v, y.2.2, by simp [List.find?, hb], h1, h2⟩
    · rename_i hb
      have hb : (y.2.2 == n) = false := by
        rw [Bool.eq_false_iff]
        intro e
        have : y.2.2 = n := by simpa using e
        rw [this] at hb
        simp at hb
      obtain ⟨k', x, b, g1, g2⟩ := findBorn_ok h3 hf
      exact ⟨k', x, b, by simp [List.find?, hb]; exact g1, g2⟩
omit hC in
theorem ventry_ok {it v : V} {I : Value} (hR : Rep E hp.t w) (h : ventry hp it = some v) (hI : ren E it = some I) : OkV P E hp w (Instr.entry I) v hp := by
  unfold ventry at h
  split at h
  · rename_i r
    simp only [ren, Option.map_eq_some_iff] at hI
    obtain ⟨⟨b, k, ex⟩, he, rfl⟩ := hI
    split at h
    · rename_i m since seen last hg
      simp only [Option.bind_eq_some_iff] at h
      obtain ⟨stamp, hst, h⟩ := h
      split at h
      · rename_i es clock hm
        split at h
        · rename_i hcl
          have hcl := Nat.eq_of_beq_eq_true hcl
          subst hcl
          simp only [Option.bind_eq_some_iff, Option.some.injEq] at h
          obtain ⟨e, hf, rfl⟩ := h
          obtain ⟨e0, x, h1, h2, h3⟩ := hR.has r _ hg
          rw [he] at h1
          obtain rfl := Option.some.inj h1
          obtain ⟨g0, f, hf', rfl⟩ := h3
          simp only [Prod.mk.injEq] at g0
          obtain ⟨rfl, rfl⟩ := g0
          obtain ⟨b2, l, g1, g2, g3⟩ := rep_map hR hm
          rw [hf'] at g1
          obtain rfl := Option.some.inj g1
          obtain ⟨kk, vv, bn, q1, q2, q3⟩ := findBorn_ok g2 hf
          rw [lastN_ok] at hst
          refine okv_same hR (x := .tuple #[kk, vv]) ?_ (by simp [ren, renL, q2, q3])
          have q1' : l.toArray.find? (fun y => y.born == stamp) = some ⟨kk, vv, bn⟩ := by simpa using q1
          have h2' : w.heap[b]? = some (.mapIter (some b2) since seen.toArray clock) := h2
          have g3' : w.heap[b2]? = some (.map l.toArray clock) := g3
          simp only [Instr.entry, getObj, Sem.run_bind, Sem.run, Nat.add_zero, h2', g3', Result.andThen_ok, hst, bne_self_eq_false, Bool.false_eq_true, if_false, q1']
          rfl
        · simp at h
      · simp at h
    · simp at h
  · simp at h
theorem vrange_ok {t : TypeId} {ti : TI} {x v : V} {X : Value} {hp' : Hp} (hR : Rep E hp.t w) (hti : tiV C t = some ti) (h : (match ti.d, x with
      | .map _ _, .m none => ret2 ((hp.new (.iter none 0 [] 0)).bind fun r => some (.p (some (r.1, 0)), r.2))
      | .map _ _, .m (some m) => match hp.get m with
        | some (.map _ clock) => ret2 ((hp.new (.iter (some m) clock [] clock)).bind fun r => some (.p (some (r.1, 0)), r.2))
        | _ => none
      | _, _ => none) = some (.v v, hp')) (hX : ren E x = some X) : OkV P E hp w (Instr.range t X) v hp' := by
  have hT := tiV_ok hC hti
  split at h
  · rename_i k e hd
    simp only [ret2, Option.bind_eq_some_iff, Option.some.injEq, Prod.mk.injEq] at h
    obtain ⟨_, ⟨⟨h', hp1⟩, hn, rfl⟩, h1, rfl⟩ := h
    simp only [VR.v.injEq] at h1
    subst h1
    simp only [ren, Option.some.injEq] at hX
    subst hX
    have hn' := new_some hn
    refine ⟨by simp only; omega, fun hf => ?_⟩
    obtain ⟨q1, rfl, q2, q3⟩ := out_new (E := E) (w := w) (o := .iter none 0 [] 0) (k := 0) (x := .mapIter none 0 #[] 0) hn hR hf ⟨rfl, rfl⟩
    exact ⟨_, _, _, run_range_nilMap w t k e (hT.map hd), by simp [ren, q3], q2⟩
  · rename_i k e m hd
    split at h
    · rename_i es clock hg
      simp only [ret2, Option.bind_eq_some_iff, Option.some.injEq, Prod.mk.injEq] at h
      obtain ⟨_, ⟨⟨h', hp1⟩, hn, rfl⟩, h1, rfl⟩ := h
      simp only [VR.v.injEq] at h1
      subst h1
      obtain ⟨b, l, g1, g2, g3⟩ := rep_map hR hg
      simp only [ren, g1, Option.map_some, Option.some.injEq] at hX
      subst hX
      have hn' := new_some hn
      refine ⟨by simp only; omega, fun hf => ?_⟩
      obtain ⟨q1, rfl, q2, q3⟩ := out_new (E := E) (w := w) (o := .iter (some m) clock [] clock) (k := 0) (x := .mapIter (some b) clock #[] clock) hn hR hf ⟨rfl, _, g1, rfl⟩
      exact ⟨_, _, _, run_range_map w t k e b l.toArray clock (hT.map hd) g3, by simp [ren, q3], q2⟩
    · simp at h
  · simp at h
end
end Go.Proofs.YtaahfdjobpbpjaaGreatDoor
