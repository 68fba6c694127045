/- Ve: the machine's regions that draw: whatever the order, the same comes out. By this project. -/
import Derived.Test.YtaahfdjobpbpjaaGreatDoorVd
set_option linter.unusedVariables false
set_option linter.unusedSectionVars false
set_option linter.unusedSimpArgs false
namespace Go.Proofs.YtaahfdjobpbpjaaGreatDoor
open Go.RowKit Go.Extern.Stop

/-! ### Logs -/
theorem playLog_get : ∀ (l : List (Nat × Option VO)) (t : Tr VO) (h : Nat), (∀ x ∈ l, roB x.1 = false) → (playLog t l).get h = match l.lookup h with | some o => o | none => t.get h
  | [], t, h, _ => rfl
  | (x, o) :: r, t, h, hs => by
    simp only [playLog]
    rw [Tr.get_set _ _ _]
    by_cases e : h = x
    · subst e
      rw [if_pos rfl, lookup_cons_eq']
    · rw [if_neg e, lookup_cons_ne' e]
      exact playLog_get r t h fun y hy => hs y (by simp [hy])
where
  lookup_cons_eq' {h : Nat} {o : Option VO} {r : List (Nat × Option VO)} : List.lookup h ((h, o) :: r) = some o := by simp [List.lookup]
  lookup_cons_ne' {h x : Nat} {o : Option VO} {r : List (Nat × Option VO)} (e : h ≠ x) : List.lookup h ((x, o) :: r) = r.lookup h := by
    have : (h == x) = false := by simpa using e
    simp [List.lookup, this]
theorem logSince_lookup (hp : Hp) : ∀ (l : List Nat) (h : Nat), (logSince hp l).lookup h = if h ∈ l then some (hp.get h) else none
  | [], h => by simp [logSince]
  | x :: r, h => by
    simp only [logSince, List.lookup]
    by_cases e : h = x
    · subst e; simp
    · have : (h == x) = false := by simpa using e
      rw [this]
      simp only [logSince_lookup hp r h, List.mem_cons, e, false_or]
theorem logOk_spec {nx : Nat} : ∀ {l : List (Nat × Option VO)}, logOk nx l = true → ∀ x ∈ l, x.1 < nx ∧ roB x.1 = false
  | [], _, x, hx => by simp at hx
  | (y, o) :: r, h, x, hx => by
    simp only [logOk] at h
    split at h
    · rename_i hb
      simp only [Bool.and_eq_true, Nat.blt_eq, Bool.not_eq_true'] at hb
      rcases List.mem_cons.1 hx with rfl | hx
      · exact hb
      · exact logOk_spec h x hx
    · simp at h
theorem fresh_spec {nx : Nat} : ∀ {l : List (Nat × Option VO)}, freshLog nx l = true → ∀ x ∈ l, nx ≤ x.1
  | [], _, x, hx => by simp at hx
  | (y, o) :: r, h, x, hx => by
    simp only [freshLog] at h
    split at h
    · rename_i hb
      rcases List.mem_cons.1 hx with rfl | hx
      · exact Nat.le_of_ble_eq_true hb
      · exact fresh_spec h x hx
    · simp at h
theorem dropLog_get : ∀ (l : List (Nat × Option VO)) (t : Tr VO) (h : Nat) (o : VO), (dropLog t l).get h = some o → t.get h = some o ∧ l.lookup h = none
  | [], t, h, o, ho => ⟨ho, rfl⟩
  | (x, y) :: r, t, h, o, ho => by
    simp only [dropLog] at ho
    rw [Tr.get_set] at ho
    split at ho
    · simp at ho
    · rename_i hx
      obtain ⟨h1, h2⟩ := dropLog_get r t h o ho
      refine ⟨h1, ?_⟩
      have : (h == x) = false := by simpa using hx
      simp [List.lookup, this, h2]
theorem dropDn_get {t : Tr VO} {m : Nat} : ∀ (dns : List Dn) (h : Nat) (o : VO), (dropDn t m dns).get h = some o → t.get h = some o ∧ ∀ d ∈ dns, bitOf m d.ix = false → d.log.lookup h = none
  | [], h, o, ho => ⟨ho, fun d hd => by simp at hd⟩
  | d :: r, h, o, ho => by
    simp only [dropDn] at ho
    split at ho
    · rename_i hb
      obtain ⟨h1, h2⟩ := dropDn_get r h o ho
      refine ⟨h1, fun d' hd hd' => ?_⟩
      rcases List.mem_cons.1 hd with rfl | hd
      · rw [hb] at hd'; simp at hd'
      · exact h2 d' hd hd'
    · obtain ⟨h3, h4⟩ := dropLog_get _ _ _ _ ho
      obtain ⟨h1, h2⟩ := dropDn_get r h o h3
      refine ⟨h1, fun d' hd hd' => ?_⟩
      rcases List.mem_cons.1 hd with rfl | hd
      · exact h4
      · exact h2 d' hd hd'
theorem inLog_spec {h : Nat} : ∀ {l : List (Nat × Option VO)}, inLog h l = false → l.lookup h = none
  | [], _ => rfl
  | (x, y) :: r, hl => by
    simp only [inLog] at hl
    split at hl
    · simp at hl
    · rename_i hx
      have : (h == x) = false := by
        rw [Bool.eq_false_iff]
        intro e
        have : h = x := by simpa using e
        rw [this] at hx
        simp at hx
      simp only [List.lookup, this]
      exact inLog_spec hl
theorem untouched_spec {m h : Nat} : ∀ {dns : List Dn}, untouched m h dns = true → ∀ d ∈ dns, bitOf m d.ix = false → d.log.lookup h = none
  | [], _, d, hd, _ => by simp at hd
  | e :: r, hu, d, hd, hb => by
    simp only [untouched] at hu
    split at hu
    · rename_i hx
      rcases List.mem_cons.1 hd with rfl | hd
      · rw [hb] at hx
        simp only [Bool.false_or, Bool.not_eq_true'] at hx
        exact inLog_spec hx
      · exact untouched_spec hu d hd hb
    · simp at hu
theorem subHp_get {t : Tr VO} : ∀ {R : List Nat} {h : Nat} {o : VO}, (subHp t R).get h = some o → h ∈ R ∧ t.get h = some o
  | [], h, o, hh => by simp only [subHp] at hh; rw [Tr.get_eq, tr_get_lf] at hh; simp at hh
  | x :: r, h, o, hh => by
    simp only [subHp] at hh
    split at hh
    · rename_i o' ho
      rw [Tr.get_set] at hh
      split at hh
      · rename_i e
        subst e
        exact ⟨by simp, by rw [ho]; exact hh⟩
      · obtain ⟨h1, h2⟩ := subHp_get hh
        exact ⟨List.mem_cons_of_mem _ h1, h2⟩
    · obtain ⟨h1, h2⟩ := subHp_get hh
      exact ⟨List.mem_cons_of_mem _ h1, h2⟩
theorem mem_of_lookup {l : List (Nat × Option VO)} {h : Nat} {o : Option VO} (hl : l.lookup h = some o) : (h, o) ∈ l := by
  induction l with
  | nil => simp at hl
  | cons x r ih =>
    obtain ⟨y, q⟩ := x
    simp only [List.lookup] at hl
    split at hl
    · rename_i e
      have : h = y := by simpa using e
      subst this
      simp only [Option.some.injEq] at hl
      subst hl
      simp
    · exact List.mem_cons_of_mem _ (ih hl)
/-- The memory when some have come up. -/
noncomputable def TDm (t0 : Tr VO) (lg : Nat → List (Nat × Option VO)) (D : Nat → Bool) : Nat → Tr VO
  | 0 => t0
  | k + 1 => if D k = true then playLog (TDm t0 lg D k) (lg k) else TDm t0 lg D k
section
variable {t0 : Tr VO} {lg : Nat → List (Nat × Option VO)} (hs : ∀ k, ∀ x ∈ lg k, roB x.1 = false)
include hs
theorem TDm_succ (D : Nat → Bool) (k h : Nat) : (TDm t0 lg D (k + 1)).get h = if D k = true then (match (lg k).lookup h with | some o => o | none => (TDm t0 lg D k).get h) else (TDm t0 lg D k).get h := by
  simp only [TDm]
  split
  · exact playLog_get _ _ _ (hs k)
  · rfl
/-- Only those that write a handle matter. -/
theorem TDm_congr {D D' : Nat → Bool} {h : Nat} : ∀ (n : Nat), (∀ j, j < n → (lg j).lookup h ≠ none → D j = D' j) → (TDm t0 lg D n).get h = (TDm t0 lg D' n).get h
  | 0, _ => rfl
  | n + 1, hd => by
    have ih := TDm_congr n fun j hj => hd j (by omega)
    rw [TDm_succ hs, TDm_succ hs, ih]
    cases hl : (lg n).lookup h with
    | none => simp
    | some o =>
      have := hd n (by omega) (by rw [hl]; simp)
      rw [this]
theorem TDm_none {D : Nat → Bool} {h : Nat} (n : Nat) (hd : ∀ j, j < n → D j = true → (lg j).lookup h = none) : (TDm t0 lg D n).get h = t0.get h := by
  induction n with
  | zero => rfl
  | succ n ih =>
    rw [TDm_succ hs, ih fun j hj => hd j (by omega)]
    split
    · rename_i hD
      rw [hd n (by omega) hD]
    · rfl
theorem TDm_last {D : Nat → Bool} {h i : Nat} {o : Option VO} : ∀ (n : Nat), i < n → D i = true → (lg i).lookup h = some o → (∀ j, i < j → j < n → D j = true → (lg j).lookup h = none) → (TDm t0 lg D n).get h = o
  | 0, hi, _, _, _ => by omega
  | n + 1, hi, hD, hl, hd => by
    rw [TDm_succ hs]
    by_cases e : i = n
    · subst e
      rw [if_pos hD, hl]
    · have ih := TDm_last n (by omega) hD hl fun j h1 h2 => hd j h1 (by omega)
      split
      · rename_i hDn
        rw [hd n (by omega) (by omega) hDn]
        exact ih
      · exact ih
theorem TDm_out {D : Nat → Bool} {m : Nat} (n : Nat) (hmn : m ≤ n) (hd : ∀ j, m ≤ j → D j = false) : TDm t0 lg D n = TDm t0 lg D m := by
  induction n with
  | zero => have : m = 0 := by omega
            subst this; rfl
  | succ n ih =>
    by_cases e : m = n + 1
    · subst e; rfl
    · simp only [TDm]
      rw [hd n (by omega), if_neg (by simp)]
      exact ih (by omega)
end
/-- The frame when some have come up. -/
noncomputable def FT (f0 : Tr V) (ds : Nat → Option Tmp) (vs : Nat → V) (D : Nat → Bool) : Nat → Tr V
  | 0 => f0
  | k + 1 => if D k = true then (match ds k with | some d => (FT f0 ds vs D k).set d (some (vs k)) | none => FT f0 ds vs D k) else FT f0 ds vs D k
section
variable {f0 : Tr V} {ds : Nat → Option Tmp} {vs : Nat → V} (hs : ∀ k d, ds k = some d → d < trMax)
include hs
theorem FT_succ (D : Nat → Bool) (k t : Nat) : (FT f0 ds vs D (k + 1)).get t = if D k = true ∧ ds k = some t then some (vs k) else (FT f0 ds vs D k).get t := by
  simp only [FT]
  by_cases hD : D k = true
  · rw [if_pos hD]
    cases hd : ds k with
    | none => simp
    | some d =>
      simp only
      rw [Tr.get_set _ _ _]
      by_cases e : t = d
      · subst e; rw [if_pos rfl, if_pos ⟨hD, rfl⟩]
      · rw [if_neg e, if_neg (fun h => e (Option.some.inj h.2).symm)]
  · rw [if_neg hD, if_neg (fun h => hD h.1)]
theorem FT_congr {D D' : Nat → Bool} {t : Nat} : ∀ (n : Nat), (∀ j, j < n → ds j = some t → D j = D' j) → (FT f0 ds vs D n).get t = (FT f0 ds vs D' n).get t
  | 0, _ => rfl
  | n + 1, hd => by
    have ih := FT_congr n fun j hj => hd j (by omega)
    rw [FT_succ hs, FT_succ hs, ih]
    by_cases hl : ds n = some t
    · rw [hd n (by omega) hl]
    · rw [if_neg (fun h => hl h.2), if_neg (fun h => hl h.2)]
theorem FT_last {D : Nat → Bool} {t i : Nat} : ∀ (n : Nat), i < n → D i = true → ds i = some t → (∀ j, i < j → j < n → D j = true → ds j ≠ some t) → (FT f0 ds vs D n).get t = some (vs i)
  | 0, hi, _, _, _ => by omega
  | n + 1, hi, hD, hl, hd => by
    rw [FT_succ hs]
    by_cases e : i = n
    · subst e; rw [if_pos ⟨hD, hl⟩]
    · rw [if_neg (fun h => hd n (by omega) (by omega) h.1 h.2)]
      exact FT_last n (by omega) hD hl fun j h1 h2 => hd j h1 (by omega)
theorem FT_out {D : Nat → Bool} {m : Nat} (n : Nat) (hmn : m ≤ n) (hd : ∀ j, m ≤ j → D j = false) (t : Nat) : (FT f0 ds vs D n).get t = (FT f0 ds vs D m).get t := by
  induction n with
  | zero => have : m = 0 := by omega
            subst this; rfl
  | succ n ih =>
    by_cases e : m = n + 1
    · subst e; rfl
    · rw [FT_succ hs, if_neg (fun h => by rw [hd n (by omega)] at h; simp at h)]
      exact ih (by omega)
end

/-! ### The states, one behind another -/
section
variable {P : Program} {C : Cx} {call : CallF} {n : Nat} {ops : List Oper} {pres : Tr Nat} {t0 : Tr VO}
theorem vdraw_states : ∀ {r : List Oper} {i : Nat} {d d' : DSt}, vdraw C call n ops pres t0 r i d = some d' → ∃ S : Nat → DSt, S 0 = d ∧ S r.length = d' ∧ ∀ k o, r[k]? = some o → vd1 C call n ops pres t0 o (i + k) (S k) = some (S (k + 1))
  | [], i, d, d', h => by
    simp only [vdraw, Option.some.injEq] at h
    exact ⟨fun _ => d, rfl, h, fun k o ho => by simp at ho⟩
  | q :: r, i, d, d', h => by
    simp only [vdraw, Option.bind_eq_some_iff] at h
    obtain ⟨d1, h1, h⟩ := h
    obtain ⟨S, s1, s2, s3⟩ := vdraw_states h
    refine ⟨fun k => match k with | 0 => d | k + 1 => S k, rfl, s2, fun k o ho => ?_⟩
    cases k with
    | zero =>
      simp only [List.getElem?_cons_zero, Option.some.injEq] at ho
      subst ho
      simp only [s1]
      exact h1
    | succ k =>
      have := s3 k o (by simpa using ho)
      rw [show i + 1 + k = i + (k + 1) by omega] at this
      exact this
theorem rdsOk_spec {m : Nat} {log : List (Nat × Option VO)} : ∀ {r : List (Nat × List Nat)}, rdsOk m log r = true → ∀ p ∈ r, bitOf m p.1 = false → ∀ h ∈ p.2, log.lookup h = none
  | [], _, p, hp, _ => by simp at hp
  | q :: r, hu, p, hp, hb => by
    simp only [rdsOk] at hu
    split at hu
    · rename_i hx
      rcases List.mem_cons.1 hp with rfl | hp
      · rw [hb] at hx
        simp only [Bool.false_or] at hx
        intro h hh
        have := allL_iff.1 hx h hh
        simp only [Bool.not_eq_true'] at this
        exact inLog_spec this
      · exact rdsOk_spec hu p hp hb
    · simp at hu
/-- What one step comes to: its value, what it wrote, whether it looked at memory. -/
def Fact (C : Cx) (call : CallF) (n : Nat) (ops : List Oper) (pres : Tr Nat) (t0 : Tr VO) (o : Oper) (k : Nat) (d d' : DSt) (x : V × List (Nat × Option VO) × Bool) : Prop :=
  setD n d.fr o.dst x.1 = some d'.fr ∧
  (x.2.2 = false → x.2.1 = [] ∧ d'.free = d.free ∧ d'.dns = d.dns ∧ d'.np = d.np ∧ d'.hp = d.hp ∧ ((wantV ops d.fr o = some false ∧ x.1 = undV) ∨ (wantV ops d.fr o = some true ∧ isPure o.op = true ∧ vpure C d.fr o.op = some x.1) ∨
    (wantV ops d.fr o = some true ∧ isPure o.op = false ∧ ∃ R q, vop C call d.fr ⟨subHp d.hp.t R, d.hp.nx, []⟩ o.op = some (.v x.1, q) ∧ q.log = [] ∧ q.nx = d.hp.nx ∧ (∀ h ∈ R, untouched (maskOf pres k) h d.dns = true) ∧ (k, R) ∈ d'.rds))) ∧
  (∀ p ∈ d.rds, p ∈ d'.rds) ∧
  (x.2.2 = true → wantV ops d.fr o = some true ∧ isPure o.op = false ∧ rdsOk (maskOf pres k) x.2.1 d.rds = true ∧ ∃ Hi q, vop C call d.fr ⟨Hi, d.hp.nx, []⟩ o.op = some (.v x.1, q) ∧ x.2.1 = logSince q q.log ∧ d'.dns = ⟨k, x.2.1⟩ :: d.dns ∧ d'.np = d.np ||| (1 <<< k) ∧ d'.hp.nx = q.nx ∧ d'.hp.log = q.log ++ d.hp.log ∧ logOk q.nx x.2.1 = true ∧
    ((maskLe d.np (maskOf pres k) = true ∧ Hi = d.hp.t ∧ d'.hp.t = q.t ∧ d'.free = (d.free && freshLog d.hp.nx x.2.1)) ∨ (maskLe d.np (maskOf pres k) = false ∧ Hi = seenV d.free t0 (maskOf pres k) d.dns ∧ d'.hp.t = playLog d.hp.t x.2.1 ∧ freshLog d.hp.nx x.2.1 = true ∧ d'.free = d.free)))
theorem vd1_fact {o : Oper} {k : Nat} {d d' : DSt} (h : vd1 C call n ops pres t0 o k d = some d') : ∃ x, Fact C call n ops pres t0 o k d d' x := by
  simp only [vd1, Option.bind_eq_some_iff] at h
  obtain ⟨b, hb, h⟩ := h
  split at h
  · simp only [Option.bind_eq_some_iff, Option.some.injEq] at h
    obtain ⟨fr, hfr, rfl⟩ := h
    exact ⟨(undV, [], false), hfr, fun _ => ⟨rfl, rfl, rfl, rfl, rfl, .inl ⟨hb, rfl⟩⟩, fun _ h => h, fun h => by simp at h⟩
  · split at h
    · rename_i hp
      simp only [Option.bind_eq_some_iff, Option.some.injEq] at h
      obtain ⟨v, hv, fr, hfr, rfl⟩ := h
      exact ⟨(v, [], false), hfr, fun _ => ⟨rfl, rfl, rfl, rfl, rfl, .inr (.inl ⟨hb, hp, hv⟩)⟩, fun _ h => h, fun h => by simp at h⟩
    · rename_i hp
      split at h
      · rename_i vR hvR
        simp only [Option.bind_eq_some_iff, Option.some.injEq] at h
        obtain ⟨fr, hfr, rfl⟩ := h
        unfold rdTry at hvR
        split at hvR
        · simp at hvR
        · split at hvR
          · simp at hvR
          · rename_i hun
            simp only [Option.bind_eq_some_iff] at hvR
            obtain ⟨⟨r, q⟩, hq, hvR⟩ := hvR
            split at hvR
            · rename_i v e1 e2 e3
              simp only at e1 e2 e3
              subst e1
              simp only [Option.some.injEq] at hvR
              subst hvR
              exact ⟨(v, [], false), hfr, fun _ => ⟨rfl, rfl, rfl, rfl, rfl, .inr (.inr ⟨hb, hp, _, q, hq, e2, Nat.eq_of_beq_eq_true e3, allL_iff.1 hun, List.mem_cons_self⟩)⟩, fun _ h => List.mem_cons_of_mem _ h, fun h => by simp at h⟩
            · simp at hvR
      split at h
      · rename_i hm
        simp only [Option.bind_eq_some_iff] at h
        obtain ⟨⟨r, q⟩, hq, h⟩ := h
        split at h
        · simp at h
        · rename_i v hv
          simp only at hv
          subst hv
          split at h
          · simp at h
          · rename_i hlo
            simp only [Bool.and_eq_true] at hlo
            simp only [Option.bind_eq_some_iff, Option.some.injEq] at h
            obtain ⟨fr, hfr, rfl⟩ := h
            exact ⟨(v, logSince q q.log, true), hfr, fun h => by simp at h, fun _ h => h, fun _ => ⟨hb, hp, hlo.2, d.hp.t, q, hq, rfl, rfl, rfl, rfl, rfl, hlo.1, .inl ⟨hm, rfl, rfl, rfl⟩⟩⟩
      · rename_i hm
        simp only [Option.bind_eq_some_iff] at h
        obtain ⟨⟨r, q⟩, hq, h⟩ := h
        split at h
        · simp at h
        · rename_i v hv
          simp only at hv
          subst hv
          split at h
          · simp at h
          · rename_i hlo
            simp only [Bool.and_eq_true] at hlo
            simp only [Option.bind_eq_some_iff, Option.some.injEq] at h
            obtain ⟨fr, hfr, rfl⟩ := h
            exact ⟨(v, logSince q q.log, true), hfr, fun h => by simp at h, fun _ h => h, fun _ => ⟨hb, hp, hlo.2, _, q, hq, rfl, rfl, rfl, rfl, rfl, hlo.1.1, .inr ⟨hm, rfl, rfl, hlo.1.2, rfl⟩⟩⟩
theorem vdraw_nx (hcall : NxOk call) : ∀ (r : List Oper) (i : Nat) (d d' : DSt), vdraw C call n ops pres t0 r i d = some d' → Ext d.hp d'.hp
  | [], i, d, d', h => by
    simp only [vdraw, Option.some.injEq] at h
    subst h
    exact ext_refl _
  | o :: r, i, d, d', h => by
    simp only [vdraw, Option.bind_eq_some_iff] at h
    obtain ⟨d1, h1, h⟩ := h
    refine Ext.trans ?_ (vdraw_nx hcall r (i + 1) d1 d' h)
    obtain ⟨⟨v, l, b⟩, f1, f2, _, f3⟩ := vd1_fact h1
    cases b with
    | false =>
      obtain ⟨_, _, _, _, e, _⟩ := f2 rfl
      rw [e]; exact ext_refl _
    | true =>
      obtain ⟨_, _, _, Hi, q, hq, e1, _, _, e3, e4, e5, e6⟩ := f3 rfl
      obtain ⟨x1, m, x2, x3⟩ := vop_nx hcall hq
      simp only [List.append_nil] at x1 x2
      refine ⟨by rw [e3]; exact x1, q.log, e4, fun y hy => ?_⟩
      rcases e6 with ⟨_, rfl, e7, _⟩ | ⟨_, _, e7, _⟩
      · rw [e7]; exact x3 y (by rw [← x2]; exact hy)
      · rw [e7, playLog_get _ _ _ (fun z hz => (logOk_spec e5 z hz).2)]
        simp only at e1
        rw [e1, logSince_lookup, if_neg hy]
end
end Go.Proofs.YtaahfdjobpbpjaaGreatDoor
