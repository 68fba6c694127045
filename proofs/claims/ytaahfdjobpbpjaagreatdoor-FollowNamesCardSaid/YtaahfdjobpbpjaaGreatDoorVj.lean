/- Vj: the machine's maps, against the world's. By this project. -/
import Derived.Test.YtaahfdjobpbpjaaGreatDoorVi
set_option linter.unusedVariables false
set_option linter.unusedSectionVars false
set_option linter.unusedSimpArgs false
namespace Go.Proofs.YtaahfdjobpbpjaaGreatDoor
open Go.RowKit Go.Extern.Stop

section
variable {P : Program} {C : Cx} (hC : COk P C) {E : Env} {hp : Hp} {w : World} {fr : Tr V} {a : Act}
theorem eqEs_true {f : V → V → Option Bool} {t : TypeId} {n : Nat} {xs ys : List V} : ∀ (k i : Nat), eqEs f C t n k (xs.drop (i * n)) (ys.drop (i * n)) = some true → ∀ j, i ≤ j → j < i + k → ∃ p q, partV C t (xs.drop (j * n)) 0 = some p ∧ partV C t (ys.drop (j * n)) 0 = some q ∧ f p q = some true
  | 0, i, _, j, h1, h2 => by omega
  | k + 1, i, h, j, h1, h2 => by
    simp only [eqEs, Option.bind_eq_some_iff] at h
    obtain ⟨p, hp, q, hq, e, he, h⟩ := h
    cases e with
    | false => simp at h
    | true =>
      by_cases hj : j = i
      · subst hj; exact ⟨p, q, hp, hq, he⟩
      · simp only [dropF_eq, List.drop_drop] at h
        rw [show i * n + n = (i + 1) * n by rw [Nat.succ_mul]] at h
        exact eqEs_true k (i + 1) h j (by omega) (by omega)
theorem veq_int {hp : Hp} {d : Nat} {t : TypeId} {ti : TI} {k : IntKind} {x y : V} (ht : tiV C t = some ti) (hd : ti.d = .int k) (h : veq C hp (d + 1) t x y = some true) : ∃ j n, x = .i j n ∧ y = .i j n := by
  simp only [veq, ht, Option.bind_some, hd] at h
  cases x <;> try (simp at h; done)
  cases y <;> try (simp at h; done)
  simp only at h
  split at h
  · rename_i hk
    have := kindEq_iff.1 hk
    subst this
    simp only [Option.some.injEq, intEq_iff, beq_iff_eq] at h
    exact ⟨_, _, rfl, by rw [h]⟩
  · simp at h
theorem veq_str {hp : Hp} {d : Nat} {t : TypeId} {ti : TI} {x y : V} (ht : tiV C t = some ti) (hd : ti.d = .str) (h : veq C hp (d + 1) t x y = some true) : ∃ s, x = .s s ∧ y = .s s := by
  simp only [veq, ht, Option.bind_some, hd] at h
  cases x <;> try (simp at h; done)
  cases y <;> try (simp at h; done)
  simp only [Option.some.injEq, byEq_iff, beq_iff_eq] at h
  exact ⟨_, rfl, by rw [h]⟩
theorem sameBits_ints {n : Nat} : ∀ (l : List Value), (∀ v ∈ l, ∃ k m, v = .int k m) → (l.zip l).all (fun x => Instr.sameBits n x.1 x.2) = true
  | [], _ => rfl
  | v :: r, h => by
    obtain ⟨k, m, rfl⟩ := h v (by simp)
    simp only [List.zip_cons_cons, List.all_cons, sameBits_ints r (fun v hv => h v (by simp [hv])), Bool.and_true]
    cases n <;> simp [Instr.sameBits]
theorem keyFit_spec {kt : TypeId} {k : V} (h : keyFit C kt k = true) : ∃ ti, tiV C kt = some ti ∧ ((∃ q, ti.d = .int q) ∨ ti.d = .str ∨ ∃ n e cs ei q, ti.d = .arr n e ∧ k = .agg cs ∧ tiV C e = some ei ∧ ei.d = .int q ∧ ei.size = 1 ∧ cs.length = n) := by
  unfold keyFit at h
  cases hti : tiV C kt with
  | none => rw [hti] at h; simp at h
  | some ti =>
    rw [hti] at h
    simp only at h
    refine ⟨ti, rfl, ?_⟩
    split at h
    · rename_i q hd
      exact .inl ⟨_, hd⟩
    · rename_i hd
      exact .inr (.inl hd)
    · rename_i n e cs hd
      split at h
      · rename_i ei hei
        split at h
        · rename_i q hed
          simp only [Bool.and_eq_true, Nat.beq_eq, lenF_eq] at h
          exact .inr (.inr ⟨n, e, cs, ei, q, hd, rfl, hei, hed, h.1, h.2⟩)
        · simp at h
      · simp at h
    · simp at h
theorem mapEq_plain {kt : TypeId} {ti : TI} {x y : V} {b : Bool} (hti : tiV C kt = some ti) (hn : ∀ n e, ti.d ≠ .arr n e) (h : mapEq C hp kt x y = some b) : veq C hp 3 kt x y = some b := by
  unfold mapEq at h
  split at h
  · simp only [hti, Option.bind_some] at h
    simp at h
  · exact h
/-- Keys that are one. -/
theorem mapEq_true {kt : TypeId} {x y : V} {X Y : Value} (hk : keyFit C kt x = true) (h : mapEq C hp kt x y = some true) (hX : ren E x = some X) (hY : ren E y = some Y) : X = Y ∧ Instr.sameBits 10000 Y X = true := by
  obtain ⟨ti, hti, hc⟩ := keyFit_spec hk
  rcases hc with ⟨q, hd⟩ | hd | ⟨n, e, xs, ei, q, hd, rfl, hei, hed, hk1, hk2⟩
  · have h' := mapEq_plain hti (fun n e hn => by rw [hd] at hn; simp at hn) h
    obtain ⟨j, n, rfl, rfl⟩ := veq_int (d := 2) hti hd h'
    rw [hX] at hY
    obtain rfl := Option.some.inj hY
    simp only [ren, Option.some.injEq] at hX
    subst hX
    exact ⟨rfl, by simp [Instr.sameBits]⟩
  · have h' := mapEq_plain hti (fun n e hn => by rw [hd] at hn; simp at hn) h
    obtain ⟨s, rfl, rfl⟩ := veq_str (d := 2) hti hd h'
    rw [hX] at hY
    obtain rfl := Option.some.inj hY
    simp only [ren, Option.some.injEq] at hX
    subst hX
    exact ⟨rfl, by simp only [Instr.sameBits]; rw [str_beq]; simp⟩
  · unfold mapEq at h
    cases y with
    | agg ys =>
      simp only [hti, Option.bind_some, hd] at h
      split at h
      · rename_i hb
        simp only [Bool.and_eq_true, Nat.beq_eq, lenF_eq] at hb
        have hall : eqEs (veq C hp 2 e) C e 1 n xs ys = some true := by
          have h2 := h
          unfold veq at h2
          simp only [hti, Option.bind_some, hd, hei, hk1] at h2
          exact h2
        have hall := eqEs_true (xs := xs) (ys := ys) n 0 (by simpa using hall)
        obtain ⟨l, g1, g2, rfl⟩ := ren_agg hX
        obtain ⟨m, g3, g4, rfl⟩ := ren_agg hY
        have hl := renL_len g1
        have hm := renL_len g3
        have key : ∀ j, j < n → ∃ kk z, l[j]? = some (.int kk z) ∧ m[j]? = some (.int kk z) := fun j hj => by
          obtain ⟨p, q', hp1, hq1, hf⟩ := hall j (by omega) (by omega)
          obtain ⟨kk, z, rfl, rfl⟩ := veq_int (d := 1) hei hed hf
          simp only [partV, hei, Option.bind_some, hed, TD.row, Nat.mul_one, getL_eq, List.getElem?_drop, Nat.add_zero] at hp1 hq1
          obtain ⟨u, k1, k2⟩ := renL_get g1 hp1
          obtain ⟨v, k3, k4⟩ := renL_get g3 hq1
          simp only [ren, Option.some.injEq] at k2 k4
          subst k2 k4
          exact ⟨_, _, k1, k3⟩
        have hlm : l = m := by
          apply List.ext_getElem?
          intro j
          by_cases hj : j < n
          · obtain ⟨kk, z, h1, h2⟩ := key j hj
            rw [h1, h2]
          · rw [List.getElem?_eq_none (by omega), List.getElem?_eq_none (by omega)]
        subst hlm
        refine ⟨rfl, ?_⟩
        have := sameBits_ints (n := 9999) l (fun v hv => by
          obtain ⟨j, hj, rfl⟩ := List.getElem_of_mem hv
          obtain ⟨kk, z, h1, _⟩ := key j (by omega)
          rw [List.getElem?_eq_getElem hj] at h1
          exact ⟨kk, z, Option.some.inj h1⟩)
        simp only [Instr.sameBits, beq_self_eq_true, Bool.true_and]
        simpa using this
      · simp at h
    | _ => simp [veq, hti, hd] at h
include hC
theorem keyFit_check {kt : TypeId} {k : V} {K : Value} (hk : keyFit C kt k = true) (hK : ren E k = some K) (em : Bool) (w : World) : (Instr.checkKey em 10000 kt K).run P w = .ok () w := by
  obtain ⟨ti, hti, hc⟩ := keyFit_spec hk
  have hT := tiV_ok hC hti
  rcases hc with ⟨q, hd⟩ | hd | ⟨n, e, cs, ei, q, hd, rfl, hei, hed, hk1, hk2⟩
  · unfold Instr.checkKey
    simp [run_underlying (hT.int hd) w]
  · unfold Instr.checkKey
    simp [run_underlying (hT.str hd) w]
  · have hEi := tiV_ok hC hei
    obtain ⟨l, g1, g2, rfl⟩ := ren_agg hK
    have hl := renL_len g1
    have hpart : ∀ j, j < n → ∀ w, ∃ v, (part e l.toArray j).run P w = .ok v w := fun j hj w => by
      have hrow := hEi.agg w
      rw [hed] at hrow
      have : j < l.length := by omega
      exact ⟨l[j], by simp only [TD.row] at hrow; simp [part, hrow, this]⟩
    have hone : ∀ v w, (Instr.checkKey em 9999 e v).run P w = .ok () w := fun v w => by
      unfold Instr.checkKey
      simp [run_underlying (hEi.int hed) w]
    unfold Instr.checkKey
    simp only [Sem.run_bind, run_underlying (hT.arr hd) w, Result.andThen_ok]
    simp only [Std.Legacy.Range.forIn_eq_forIn_range', Std.Legacy.Range.size, Nat.sub_zero, Nat.add_one_sub_one, Nat.div_one]
    have hin : ∀ j ∈ List.range' 0 n, j < n := fun j hj => by simp at hj; omega
    revert hin
    generalize List.range' 0 n = is
    intro hin
    have hsz := hEi.size w
    rw [hk1] at hsz
    induction is with
    | nil => simp
    | cons j r ih =>
      obtain ⟨v, hv⟩ := hpart j (hin j (by simp)) w
      simp only [List.forIn_cons, Sem.run_bind, hsz, Result.andThen_ok, Nat.mul_one, hv, hone, Sem.run_pure]
      exact ih (fun q hq => hin q (by simp [hq]))
/-- What looking for a key comes to. -/
def FindR (E : Env) (K : Value) (es : List (V × V × Nat)) (i : Nat) (q : Option (Nat × V)) (r : Option (Nat × Value)) : Prop := match q with
  | none => r = none
  | some (j, v) => i ≤ j ∧ ∃ kk bn x, es[j - i]? = some (kk, v, bn) ∧ ren E kk = some K ∧ Instr.sameBits 10000 K K = true ∧ ren E v = some x ∧ r = some (j, x)
omit hC in
theorem renEs_cons {e : V × V × Nat} {es : List (V × V × Nat)} {l : List MapEntry} (h : renEs E (e :: es) = some l) : ∃ k v t, ren E e.1 = some k ∧ ren E e.2.1 = some v ∧ renEs E es = some t ∧ l = ⟨k, v, e.2.2⟩ :: t := by
  unfold renEs at h
  rw [mapO_cons] at h
  cases h1 : ren E e.1 with
  | none => rw [h1] at h; simp at h
  | some k =>
    cases h2 : ren E e.2.1 with
    | none => rw [h1, h2] at h; simp at h
    | some v =>
      rw [h1, h2] at h
      cases h3 : mapO (fun e : V × V × Nat => (ren E e.1).bind fun k => (ren E e.2.1).map fun v => MapEntry.mk k v e.2.2) es with
      | none => rw [h3] at h; simp at h
      | some t =>
        rw [h3] at h
        simp at h
        exact ⟨k, v, t, rfl, rfl, h3, h.symm⟩
omit hC in
theorem renEs_mk {e : V × V × Nat} {es : List (V × V × Nat)} {k v : Value} {t : List MapEntry} (h1 : ren E e.1 = some k) (h2 : ren E e.2.1 = some v) (h3 : renEs E es = some t) : renEs E (e :: es) = some (⟨k, v, e.2.2⟩ :: t) := by
  unfold renEs at h3 ⊢
  simp only [mapO_cons, h1, h2, h3, Option.bind_some, Option.map_some]
theorem find_ok {kt : TypeId} {k : V} {K : Value} (hR : Rep E hp.t w) (hk : keyFit C kt k = true) (hK : ren E k = some K) : ∀ (es : List (V × V × Nat)) (l : List MapEntry) (i : Nat) (q : Option (Nat × V)), findV (mapEq C hp kt) k es i = some q → renEs E es = some l →
    ∃ r, (Instr.findAsking kt K l i).run P w = .ok r w ∧ FindR E K es i q r
  | [], l, i, q, h, hl => by
    simp [findV] at h
    simp [renEs, mapO_nil] at hl
    subst h hl
    exact ⟨none, rfl, rfl⟩
  | e :: es, l, i, q, h, hl => by
    obtain ⟨kk, vv, t, h1, h2, h3, rfl⟩ := renEs_cons hl
    simp only [findV, Option.bind_eq_some_iff] at h
    obtain ⟨b, hb, h⟩ := h
    have hrun : (Op.equal kt K kk).run P w = .ok b w := by
      refine veq_run hC (d := 3) (by omega) ?_ hR hK h1
      unfold mapEq at hb
      split at hb
      · simp only [Option.bind_eq_some_iff] at hb
        obtain ⟨ti, _, hb⟩ := hb
        split at hb
        · split at hb
          · exact hb
          · simp at hb
        · simp at hb
      · exact hb
    cases b with
    | true =>
      simp only [Option.some.injEq] at h
      subst h
      obtain ⟨he, hs⟩ := mapEq_true hk hb hK h1
      subst he
      refine ⟨some (i, vv), by simp [Instr.findAsking, hrun], Nat.le_refl _, e.1, e.2.2, vv, by simp, h1, hs, h2, rfl⟩
    | false =>
      obtain ⟨r, g1, g2⟩ := find_ok hR hk hK es t (i + 1) q h h3
      refine ⟨r, by simp [Instr.findAsking, hrun, g1], ?_⟩
      cases q with
      | none => exact g2
      | some jv =>
        obtain ⟨k1, kk', bn, x, k2, k3⟩ := g2
        refine ⟨by omega, kk', bn, x, ?_, k3⟩
        rw [show jv.1 - i = (jv.1 - (i + 1)) + 1 by omega]
        simpa using k2
omit hC in
/-- The quick look agrees with the other. -/
theorem findNow_ok {kt : TypeId} {D : TypeDesc} {K : Value} (hD : P.underlying kt = some D) : ∀ (l : List MapEntry) (i : Nat) (r : Option (Nat × Value)), Instr.findNow D K l i = some r → (Instr.findAsking kt K l i).run P w = .ok r w
  | [], i, r, h => by simp [Instr.findNow] at h; subst h; rfl
  | e :: es, i, r, h => by
    simp only [Instr.findNow] at h
    have key : ∀ b, Instr.sameNow D K e.key = some b → (Op.equal kt K e.key).run P w = .ok b w := fun b hb => by
      rw [show Op.equal kt K e.key = Op.equalIn (9999 + 1) kt K e.key from rfl]
      unfold Op.equalIn
      simp only [Sem.run_bind, run_underlying hD w, Result.andThen_ok]
      unfold Instr.sameNow at hb
      split at hb
      · rename_i k x k' y heq
        split at hb
        · rename_i hk
          subst hk
          simp only [Option.some.injEq] at hb
          subst hb
          simp [heq]
        · simp at hb
      · rename_i x y heq
        simp only [Option.some.injEq] at hb
        subst hb
        simp [heq]
      · rename_i x y heq
        simp only [Option.some.injEq] at hb
        subst hb
        simp [heq]
      · simp at hb
    split at h
    · rename_i hs
      simp only [Option.some.injEq] at h
      subst h
      simp [Instr.findAsking, key _ hs]
    · rename_i hs
      have := findNow_ok hD es (i + 1) r h
      simp [Instr.findAsking, key _ hs, this]
    · simp at h
theorem findKey_ok {kt : TypeId} {k : V} {K : Value} {es : List (V × V × Nat)} {l : List MapEntry} {q : Option (Nat × V)} (hR : Rep E hp.t w) (hk : keyFit C kt k = true) (hK : ren E k = some K) (h : findV (mapEq C hp kt) k es 0 = some q) (hl : renEs E es = some l) :
    ∃ r, (Instr.findKey kt K l).run P w = .ok r w ∧ FindR E K es 0 q r := by
  obtain ⟨r, h1, h2⟩ := find_ok hC hR hk hK es l 0 q h hl
  refine ⟨r, ?_, h2⟩
  obtain ⟨D, hD⟩ : ∃ D, P.underlying kt = some D := by
    unfold keyFit at hk
    cases hti : tiV C kt with
    | none => rw [hti] at hk; simp at hk
    | some ti =>
      obtain ⟨D, hD, _⟩ := (tiV_ok hC hti).und
      exact ⟨D, hD⟩
  unfold Instr.findKey
  simp only [Sem.run_bind, run_underlying hD w, Result.andThen_ok]
  cases hn : Instr.findNow D K l 0 with
  | none => exact h1
  | some r' =>
    have := findNow_ok (P := P) (w := w) hD l 0 r' hn
    rw [h1] at this
    simp only [Result.ok.injEq, and_true] at this
    subst this
    rfl
omit hC in
theorem rep_map {t : Tr VO} (hR : Rep E t w) {h : Nat} {es : List (V × V × Nat)} {clock : Nat} (hg : t.get h = some (.map es clock)) : ∃ b l, E h = some (b, 0, 0) ∧ renEs E es = some l ∧ w.heap[b]? = some (.map l.toArray clock) := by
  obtain ⟨⟨b, k, ex⟩, x, h1, h2, h3⟩ := hR.has h _ hg
  obtain ⟨g0, l, g1, rfl⟩ := h3
  simp only [Prod.mk.injEq] at g0
  obtain ⟨rfl, rfl⟩ := g0
  exact ⟨b, l, h1, g1, h2⟩
theorem vlookup_ok {t : TypeId} {m k v : V} {M K : Value} {ok : Bool} (hR : Rep E hp.t w) (h : vlookup C hp t m k ok = some v) (hM : ren E m = some M) (hK : ren E k = some K) : OkV P E hp w (Instr.lookup t M K ok) v hp := by
  simp only [vlookup, Option.bind_eq_some_iff] at h
  obtain ⟨ti, hti, h⟩ := h
  have hT := tiV_ok hC hti
  split at h
  · rename_i kt et hd
    split at h
    · rename_i hk
      simp only [Option.bind_eq_some_iff] at h
      obtain ⟨es, hes, q, hq, ⟨rv, rb⟩, hr, h⟩ := h
      have hu := hT.map hd
      have hes' : ∃ l : List MapEntry, renEs E es = some l ∧ ((M = .map none ∧ l = []) ∨ ∃ b clock, M = .map (some b) ∧ w.heap[b]? = some (.map l.toArray clock)) := by
        split at hes
        · simp only [Option.some.injEq] at hes
          subst hes
          simp only [ren, Option.some.injEq] at hM
          exact ⟨[], rfl, .inl ⟨hM.symm, rfl⟩⟩
        · split at hes
          · rename_i r es' clock hg
            simp only [Option.some.injEq] at hes
            subst hes
            obtain ⟨b, l, g1, g2, g3⟩ := rep_map hR hg
            simp only [ren, g1, Option.map_some, Option.some.injEq] at hM
            exact ⟨l, g2, .inr ⟨b, clock, hM.symm, g3⟩⟩
          · simp at hes
        · simp at hes
      obtain ⟨l, hl, hcase⟩ := hes'
      obtain ⟨r, f1, f2⟩ := findKey_ok hC hR hk hK hq hl
      have hck := fun em => keyFit_check hC hk hK em w
      have hfin : ∃ X, ren E rv = some X ∧ ((r = none ∧ (zeroValue et).run P w = .ok X w ∧ rb = false) ∨ ((∃ j, r = some (j, X)) ∧ rb = true)) := by
        cases q with
        | none =>
          simp only [Option.bind_eq_some_iff, Option.some.injEq, Prod.mk.injEq] at hr
          obtain ⟨ei, hei, z, hz, rfl, rfl⟩ := hr
          obtain ⟨zv, z1, z2⟩ := (tiV_ok hC hei).zero hz w
          exact ⟨zv, z2 E, .inl ⟨f2, z1, rfl⟩⟩
        | some jv =>
          simp only [Option.some.injEq, Prod.mk.injEq] at hr
          obtain ⟨rfl, rfl⟩ := hr
          obtain ⟨_, kk, bn, x, k2, k3, k4, k5, rfl⟩ := f2
          exact ⟨x, k5, .inr ⟨⟨_, rfl⟩, rfl⟩⟩
      obtain ⟨X, hX, hres⟩ := hfin
      have hv : ren E v = some (if ok = true then .tuple #[X, .bool rb] else X) := by
        cases ok with
        | true =>
          simp only [Option.some.injEq] at h
          subst h
          simp [ren, renL, hX]
        | false =>
          simp only [Option.some.injEq] at h
          subst h
          simp [hX]
      refine okv_same hR ?_ hv
      rcases hcase with ⟨rfl, rfl⟩ | ⟨b, clock, rfl, hb⟩
      · simp only [Instr.lookup, Sem.run_bind, run_underlying hu w, Result.andThen_ok, Sem.run_pure, hck]
        rcases hres with ⟨rfl, hz, rfl⟩ | ⟨⟨j, rfl⟩, rfl⟩ <;> simp [f1, *]
      · simp only [Instr.lookup, Sem.run_bind, run_underlying hu w, Result.andThen_ok, Sem.run_pure, hck, MapKept.run_getObj_map hb]
        rcases hres with ⟨rfl, hz, rfl⟩ | ⟨⟨j, rfl⟩, rfl⟩ <;> simp [f1, *]
    · simp at h
  · simp at h
end
end Go.Proofs.YtaahfdjobpbpjaaGreatDoor
