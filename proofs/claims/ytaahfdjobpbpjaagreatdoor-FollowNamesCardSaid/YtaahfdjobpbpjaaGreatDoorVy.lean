/- Vy: the machine's operations that look at memory, against the world's. By this project. -/
import Derived.Test.YtaahfdjobpbpjaaGreatDoorVx
import Derived.DeepKeys
import Derived.ChangeKeysEq
import Derived.LaidEql
import Derived.Laws.IdiomCopy
import Derived.Laws.IdiomStrings
import Derived.Laws.BytesString
import Derived.Laws.IdiomRangeMap
import Derived.Laws.LoneSync
import Derived.Laws.StructEq
set_option linter.unusedVariables false
set_option linter.unusedSectionVars false
set_option linter.unusedSimpArgs false
namespace Go.Proofs.YtaahfdjobpbpjaaGreatDoor
open Go.RowKit Go.Extern.Stop

section
variable {P : Program} {C : Cx} (hC : COk P C)
include hC
/-! ### Equality -/
theorem partV_run {t : TypeId} {cs : List V} {o : Nat} {v : V} (h : partV C t cs o = some v) {E : Env} {l : List Value} (hl : renL E cs = some l) (h1 : l.all (·.oneCell') = true) : ∃ x, ren E v = some x ∧ ∀ w, (part t l.toArray o).run P w = .ok x w := partV_ok hC h hl h1
theorem eqFs_ok {f : TypeId → V → V → Option Bool} {d : Nat} {E : Env} {w : World} (ih : ∀ t x y b X Y, f t x y = some b → ren E x = some X → ren E y = some Y → (Op.equalIn d t X Y).run P w = .ok b w) {xs ys : List V} {X Y : List Value} (hx : renL E xs = some X) (hy : renL E ys = some Y) (hx1 : X.all (·.oneCell') = true) (hy1 : Y.all (·.oneCell') = true) :
    ∀ (Fs : List Field) (b : Bool), (∀ g ∈ Fs, g.name ≠ "_") → eqFs f C xs ys (Fs.map fun g => (g.offset, g.type)) = some b → (Op.eqFields d X.toArray Y.toArray Fs).run P w = .ok b w
  | [], b, _, h => by simp [eqFs] at h; subst h; simp [Op.eqFields]
  | g :: r, b, hn, h => by
    simp only [List.map_cons, eqFs, Option.bind_eq_some_iff] at h
    obtain ⟨p, hp, q, hq, e, he, h⟩ := h
    obtain ⟨p', hp1, hp2⟩ := partV_run hC hp hx hx1
    obtain ⟨q', hq1, hq2⟩ := partV_run hC hq hy hy1
    have h3 := ih _ _ _ _ _ _ he hp1 hq1
    simp only [Op.eqFields, hn g (by simp), ne_eq, not_false_eq_true, if_true, Sem.run_bind, hp2 w, hq2 w, h3, Result.andThen_ok]
    cases e with
    | true =>
      simp only [Bool.not_true, Bool.false_eq_true, if_false]
      exact eqFs_ok ih hx hy hx1 hy1 r b (fun g hg => hn g (by simp [hg])) h
    | false =>
      simp at h
      subst h
      simp
omit hC in
theorem part_drop {t : TypeId} {X : List Value} {i : Nat} {w : World} : (part t (X.drop i).toArray 0).run P w = (part t X.toArray i).run P w := by
  have e1 : ∀ s, (X.drop i).toArray.extract 0 (0 + s) = X.toArray.extract i (i + s) := fun s => by
    apply Array.ext'
    simp [List.drop_take]
  have e2 : (X.drop i).toArray[0]? = X.toArray[i]? := by simp
  unfold part
  simp only [e1, e2]
theorem eqEs_ok {f : V → V → Option Bool} {d n : Nat} {t : TypeId} {E : Env} {w : World} (ih : ∀ x y b X Y, f x y = some b → ren E x = some X → ren E y = some Y → (Op.equalIn d t X Y).run P w = .ok b w) {xs ys : List V} {X Y : List Value} (hx : renL E xs = some X) (hy : renL E ys = some Y) (hx1 : X.all (·.oneCell') = true) (hy1 : Y.all (·.oneCell') = true) :
    ∀ (k i : Nat) (b : Bool), eqEs f C t n k (xs.drop (i * n)) (ys.drop (i * n)) = some b → (Op.eqItems d t n X.toArray Y.toArray (List.range' i k)).run P w = .ok b w
  | 0, i, b, h => by simp [eqEs] at h; subst h; simp [Op.eqItems]
  | k + 1, i, b, h => by
    simp only [eqEs, Option.bind_eq_some_iff] at h
    obtain ⟨p, hp, q, hq, e, he, h⟩ := h
    have sub : ∀ {Z : List Value}, Z.all (·.oneCell') = true → (Z.drop (i * n)).all (·.oneCell') = true := fun h => List.all_eq_true.2 fun x hx => List.all_eq_true.1 h x (List.mem_of_mem_drop hx)
    obtain ⟨p', hp1, hp2⟩ := partV_run hC hp (renL_drop _ hx) (sub hx1)
    obtain ⟨q', hq1, hq2⟩ := partV_run hC hq (renL_drop _ hy) (sub hy1)
    simp only [part_drop] at hp2 hq2
    have h3 := ih _ _ _ _ _ he hp1 hq1
    rw [List.range'_succ]
    simp only [Op.eqItems, Sem.run_bind, hp2 w, hq2 w, h3, Result.andThen_ok]
    cases e with
    | true =>
      simp only [Bool.not_true, Bool.false_eq_true, if_false]
      simp only [dropF_eq, List.drop_drop] at h
      rw [show i * n + n = (i + 1) * n by rw [Nat.succ_mul]] at h
      exact eqEs_ok ih hx hy hx1 hy1 k (i + 1) b h
    | false =>
      simp at h
      subst h
      simp
omit hC in
theorem bare_ok {E : Env} {hp : Hp} {w : World} (hr : Rep E hp.t w) {h : Nat} (hb : bare hp h = true) : ∃ e C T, E h = some e ∧ w.heap[e.1]? = some (.cells C T (0, 0)) ∧ roB h = false ∧ ∃ o, hp.t.get h = some o := by
  unfold bare at hb
  split at hb
  · rename_i cs t op hg
    obtain ⟨hg, hro⟩ := getW_some hg
    obtain ⟨e, x, h1, h2, h3⟩ := hr.has h _ hg
    obtain ⟨pre, l, sp, fz, g1, g2, g3, rfl, g5, g6, g7, g8⟩ := h3
    rw [g7 rfl] at h2
    exact ⟨e, _, _, h1, h2, hro, _, hg⟩
  · simp at hb
omit hC in
theorem str_beq (a b : List UInt8) : ((⟨a.toArray⟩ : ByteArray) == ⟨b.toArray⟩) = (a == b) := by
  show (a.toArray == b.toArray) = (a == b)
  simp
set_option maxHeartbeats 4000000 in
theorem veq_ok : ∀ (d : Nat) (t : TypeId) (x y : V) (b : Bool) (k : Nat) (E : Env) (hp : Hp) (w : World) (X Y : Value), veq C hp d t x y = some b → Rep E hp.t w → ren E x = some X → ren E y = some Y → (Op.equalIn (d + k) t X Y).run P w = .ok b w
  | 0, t, x, y, b, k, E, hp, w, X, Y, h, hr, hX, hY => by simp [veq] at h
  | d + 1, t, x, y, b, k, E, hp, w, X, Y, h, hr, hX, hY => by
    rw [show d + 1 + k = (d + k) + 1 by omega]
    simp only [veq, Option.bind_eq_some_iff] at h
    obtain ⟨ti, ht, h⟩ := h
    have hT := tiV_ok hC ht
    split at h
    · rename_i p q hd
      simp [ren] at hX hY h
      subst hX hY h
      simp [Op.equalIn, run_underlying (hT.bool hd) w]
    · rename_i kk k1 p k2 q hd
      split at h
      · rename_i hk
        simp only [Option.some.injEq] at h
        simp only [ren, Option.some.injEq] at hX hY
        subst hX hY h
        have := kindEq_iff.1 hk
        subst this
        simp [Op.equalIn, run_underlying (hT.int hd) w, intEq_iff]
      · simp at h
    · rename_i p q hd
      simp only [Option.some.injEq] at h
      simp only [ren, Option.some.injEq] at hX hY
      subst hX hY h
      simp only [Op.equalIn, Sem.run_bind, run_underlying (hT.str hd) w, Result.andThen_ok, str_beq, byEq_iff]
      rfl
    · rename_i e q hd
      simp only [Option.some.injEq] at h
      simp only [ren, Option.some.injEq] at hX
      subst hX h
      cases q with
      | none =>
        simp only [ren, Option.some.injEq] at hY
        subst hY
        simp [Op.equalIn, run_underlying (hT.ptr hd) w]
      | some q =>
        simp only [ren, Option.map_eq_some_iff] at hY
        obtain ⟨f, _, rfl⟩ := hY
        simp [Op.equalIn, run_underlying (hT.ptr hd) w]
    · rename_i e q hd
      simp only [Option.some.injEq] at h
      simp only [ren, Option.some.injEq, Option.map_eq_some_iff] at hX hY
      obtain ⟨f, _, rfl⟩ := hX
      subst hY h
      simp [Op.equalIn, run_underlying (hT.ptr hd) w]
    · rename_i e h1 o1 h2 o2 hd
      simp only [Option.bind_eq_some_iff] at h
      obtain ⟨te, hte, h⟩ := h
      simp only [ren, Option.map_eq_some_iff] at hX hY
      obtain ⟨f1, hf1, rfl⟩ := hX
      obtain ⟨f2, hf2, rfl⟩ := hY
      split at h
      · simp at h
      · rename_i hz
        have hz' : te.size ≠ 0 := fun e => by rw [e] at hz; simp at hz
        have hsz := (tiV_ok hC hte).size w
        split at h
        · rename_i hb
          have := Nat.eq_of_beq_eq_true hb
          subst this
          rw [hf1] at hf2
          obtain rfl := Option.some.inj hf2
          simp only [Option.some.injEq] at h
          subst h
          simp only [Op.equalIn, Sem.run_bind, run_underlying (hT.ptr hd) w, Result.andThen_ok, hsz]
          rw [if_pos hz']
          simp only [sameAddr, beq_self_eq_true, if_true]
          show Result.ok _ w = _
          congr 1
          rw [Bool.eq_iff_iff]
          simp [Nat.beq_eq]
        · rename_i hb
          split at h
          · rename_i hbb
            simp only [Bool.and_eq_true] at hbb
            simp only [Option.some.injEq] at h
            subst h
            obtain ⟨e1, C1, T1, g1, g2, r1, p1, g3⟩ := bare_ok hr hbb.1
            obtain ⟨e2, C2, T2, g4, g5, r2, p2, g6⟩ := bare_ok hr hbb.2
            rw [hf1] at g1
            rw [hf2] at g4
            obtain rfl := Option.some.inj g1
            obtain rfl := Option.some.inj g4
            have hne : f1.1 ≠ f2.1 := fun e => by
              rcases hr.inj _ _ _ _ _ _ g3 g6 hf1 hf2 e with this | this
              · rw [this] at hb
                simp [Nat.beq_eq] at hb
              · rw [r1] at this; simp at this
            simp only [Op.equalIn, Sem.run_bind, run_underlying (hT.ptr hd) w, Result.andThen_ok, hsz]
            rw [if_pos hz']
            exact run_sameAddr_other w (fun e => hne (congrArg Addr.block e)) g2 g5
          · simp at h
    · rename_i hd
      obtain ⟨ms, hu⟩ := hT.ifc hd
      simp only [ren, Option.some.injEq] at hX hY h
      subst hX hY h
      simp [Op.equalIn, run_underlying hu w]
    · rename_i hd
      obtain ⟨ms, hu⟩ := hT.ifc hd
      simp only [ren, Option.some.injEq, Option.map_eq_some_iff] at hX hY h
      obtain ⟨f, _, rfl⟩ := hY
      subst hX h
      simp [Op.equalIn, run_underlying hu w]
    · rename_i hd
      obtain ⟨ms, hu⟩ := hT.ifc hd
      simp only [ren, Option.some.injEq, Option.map_eq_some_iff] at hX hY h
      obtain ⟨f, _, rfl⟩ := hX
      subst hY h
      simp [Op.equalIn, run_underlying hu w]
    · rename_i t1 p t2 q hd
      obtain ⟨ms, hu⟩ := hT.ifc hd
      simp only [ren, Option.map_eq_some_iff] at hX hY
      obtain ⟨p', hp', rfl⟩ := hX
      obtain ⟨q', hq', rfl⟩ := hY
      split at h
      · rename_i hb
        have := Nat.eq_of_beq_eq_true hb
        subst this
        simp only [Option.bind_eq_some_iff] at h
        obtain ⟨t1i, h1, h⟩ := h
        split at h
        · rename_i heq
          have hT1 := tiV_ok hC h1
          obtain ⟨i, hi, _, _, hrun⟩ := hT1.tinfo w
          have hcmp := (hT1.eq heq).1 i hi
          have := veq_ok d t1 p q b k E hp w p' q' h hr hp' hq'
          simp [Op.equalIn, run_underlying hu w, hrun, hcmp, this]
        · simp at h
      · rename_i hb
        simp only [Option.some.injEq] at h
        subst h
        have : t1 ≠ t2 := fun e => by subst e; simp [Nat.beq_eq] at hb
        simp [Op.equalIn, run_underlying hu w, this]
    · rename_i fs xs ys hd
      split at h
      · rename_i heq
        obtain ⟨Fs, hu, hfs⟩ := hT.st hd
        obtain ⟨_, _, hst, hnm⟩ := hT.eq heq
        obtain ⟨l, g1, g2, rfl⟩ := ren_agg hX
        obtain ⟨m, g3, g4, rfl⟩ := ren_agg hY
        have hF : P.fieldsOf t = Fs := by simp [Program.fieldsOf, hu]
        rw [run_equalIn_struct w (d + k) t _ _ (by rw [hF]; exact hu) hst, hF]
        refine eqFs_ok hC (f := veq C hp d) (fun t x y b X Y h1 h2 h3 => veq_ok d t x y b k E hp w X Y h1 hr h2 h3) g1 g3 g2 g4 Fs.toList b (fun g hg => hnm Fs hu g (by simpa using hg)) ?_
        rw [hfs]; exact h
      · simp at h
    · rename_i n e xs ys hd
      simp only [Option.bind_eq_some_iff] at h
      obtain ⟨te, hte, h⟩ := h
      obtain ⟨i, hi, hsz, _⟩ := (tiV_ok hC hte).info
      obtain ⟨l, g1, g2, rfl⟩ := ren_agg hX
      obtain ⟨m, g3, g4, rfl⟩ := ren_agg hY
      rw [run_equalIn_array w (d + k) _ _ (hT.arr hd) hi]
      have : P.cellsOf e = te.size := by simp [Program.cellsOf, hi, hsz]
      rw [this, List.range_eq_range']
      exact eqEs_ok hC (f := veq C hp d e) (fun x y b X Y h1 h2 h3 => veq_ok d e x y b k E hp w X Y h1 hr h2 h3) g1 g3 g2 g4 n 0 b (by simpa using h)
    · rename_i e l1 c1 o1 q l2 c2 o2 hd
      simp only [Option.some.injEq] at h
      simp only [ren, Option.some.injEq] at hX
      subst hX h
      cases q with
      | none =>
        simp only [ren, Option.some.injEq] at hY
        subst hY
        simp [Op.equalIn, run_underlying (hT.sl hd) w]
      | some q =>
        simp only [ren, Option.map_eq_some_iff] at hY
        obtain ⟨f, _, rfl⟩ := hY
        simp [Op.equalIn, run_underlying (hT.sl hd) w]
    · rename_i hd
      simp only [Option.some.injEq] at h
      simp only [ren, Option.some.injEq, Option.map_eq_some_iff] at hX hY
      obtain ⟨f, _, rfl⟩ := hX
      subst hY h
      simp [Op.equalIn, run_underlying (hT.sl hd) w]
    · rename_i q hd
      simp only [Option.some.injEq] at h
      simp only [ren, Option.some.injEq] at hX
      subst hX h
      cases q with
      | none =>
        simp only [ren, Option.some.injEq] at hY
        subst hY
        simp [Op.equalIn, run_underlying (hT.map hd) w]
      | some q =>
        simp only [ren, Option.map_eq_some_iff] at hY
        obtain ⟨f, _, rfl⟩ := hY
        simp [Op.equalIn, run_underlying (hT.map hd) w]
    · rename_i hd
      simp only [Option.some.injEq] at h
      simp only [ren, Option.some.injEq, Option.map_eq_some_iff] at hX hY
      obtain ⟨f, _, rfl⟩ := hX
      subst hY h
      simp [Op.equalIn, run_underlying (hT.map hd) w]
    · rename_i hd
      obtain ⟨_, _, _, hu⟩ := hT.fn hd
      simp only [ren, Option.some.injEq] at hX hY h
      subst hX hY h
      simp [Op.equalIn, run_underlying hu w]
    · rename_i hd
      obtain ⟨_, _, _, hu⟩ := hT.fn hd
      simp only [ren, Option.some.injEq, Option.map_eq_some_iff, Option.bind_eq_some_iff] at hX hY h
      obtain ⟨_, _, _, _, rfl⟩ := hY
      subst hX h
      simp [Op.equalIn, run_underlying hu w]
    · rename_i hd
      obtain ⟨_, _, _, hu⟩ := hT.fn hd
      simp only [ren, Option.some.injEq, Option.map_eq_some_iff, Option.bind_eq_some_iff] at hX hY h
      obtain ⟨_, _, _, _, rfl⟩ := hX
      subst hY h
      simp [Op.equalIn, run_underlying hu w]
    · simp at h
theorem veq_run {t : TypeId} {x y : V} {b : Bool} {d : Nat} {E : Env} {hp : Hp} {w : World} {X Y : Value} (hd : d ≤ 10000) (h : veq C hp d t x y = some b) (hr : Rep E hp.t w) (hX : ren E x = some X) (hY : ren E y = some Y) : (Op.equal t X Y).run P w = .ok b w := by
  have := veq_ok hC d t x y b (10000 - d) E hp w X Y h hr hX hY
  rw [show d + (10000 - d) = 10000 by omega] at this
  exact this
end
end Go.Proofs.YtaahfdjobpbpjaaGreatDoor
