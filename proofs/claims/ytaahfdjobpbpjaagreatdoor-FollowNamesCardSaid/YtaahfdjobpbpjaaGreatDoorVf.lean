/- Vf: the machine's regions that draw: the proof that every order comes to the same. By this project. -/
import Derived.Test.YtaahfdjobpbpjaaGreatDoorVe
set_option linter.unusedVariables false
set_option linter.unusedSectionVars false
set_option linter.unusedSimpArgs false
namespace Go.Proofs.YtaahfdjobpbpjaaGreatDoor
open Go.RowKit Go.Extern.Stop

theorem rep_congr {E : Env} {t t' : Tr VO} {w : World} (h : ∀ x, t.get x = t'.get x) (k : Rep E t w) : Rep E t' w :=
  ⟨fun x o hx => k.has x o (by rw [h]; exact hx), fun x y o o' e e' hx hy => k.inj x y o o' e e' (by rw [h]; exact hx) (by rw [h]; exact hy)⟩
theorem frm_congr {E0 E : Env} {t0 t t' : Tr VO} {w0 w : World} (h : ∀ x, t.get x = t'.get x) (k : Frm E0 t0 w0 E t w) : Frm E0 t0 w0 E t' w :=
  ⟨k.os, k.tape, k.output, k.size, k.keep, fun x o e hx he hr => k.new x o e (by rw [h]; exact hx) he hr⟩
/-- An operation that saw a part of memory, in a world with more. -/
theorem out_frame {E0 E1 E2 : Env} {t0 T T' : Tr VO} {hi q : Hp} {w0 w1 w2 : World} {L : List Nat} (hR : Rep E1 T w1) (hF : Frm E0 t0 w0 E1 T w1) (hO : Out E1 hi w1 E2 q w2) (hsub : ∀ h o, hi.t.get h = some o → T.get h = some o)
    (hT : ∀ h, T'.get h = if h ∈ L then q.t.get h else T.get h) (hq : ∀ h, h ∉ L → q.t.get h = hi.t.get h) (hLr : ∀ h ∈ L, roB h = false) : Rep E2 T' w2 ∧ Frm E0 t0 w0 E2 T' w2 := by
  have cls : ∀ h o, T'.get h = some o → q.t.get h = some o ∨ (hi.t.get h = none ∧ T.get h = some o) := fun h o ho => by
    rw [hT] at ho
    split at ho
    · exact .inl ho
    · rename_i hn
      cases hh : hi.t.get h with
      | none => exact .inr ⟨rfl, ho⟩
      | some o' =>
        have := hsub h o' hh
        rw [ho] at this
        rw [hq h hn, hh, ← this]
        exact .inl rfl
  have same : ∀ h o e, hi.t.get h = none → T.get h = some o → E1 h = some e → w2.heap[e.1]? = w1.heap[e.1]? := fun h o e hn ho he =>
    hO.frm.keep e.1 (hR.lt ho he) fun h' o' e' hh' he' hro' heq => by
      rcases hR.inj _ _ _ _ _ _ (hsub h' o' hh') ho he' he heq with this | this
      · subst this
        rw [hn] at hh'
        simp at hh'
      · rw [hro'] at this
        simp at this
  have old : ∀ h o, T.get h = some o → ∃ e, E1 h = some e ∧ E2 h = some e := fun h o ho => by
    obtain ⟨e, x, h1, _⟩ := hR.has h o ho
    exact ⟨e, h1, hO.le _ _ h1⟩
  refine ⟨⟨fun h o ho => ?_, fun h h' o o' e e' ho ho' he he' hee => ?_⟩, ⟨hO.frm.os.trans hF.os, hO.frm.tape.trans hF.tape, hO.frm.output.trans hF.output, Nat.le_trans hF.size hO.frm.size, fun k hk hn => ?_, fun h o e ho he hro => ?_⟩⟩
  · rcases cls h o ho with g | ⟨g1, g2⟩
    · exact hO.rep.has h o g
    · obtain ⟨e, x, h1, h2, h3⟩ := hR.has h o g2
      exact ⟨e, x, hO.le _ _ h1, by rw [same h o e g1 g2 h1]; exact h2, h3.mono hO.le⟩
  · have mix : ∀ h h' o o' e e', q.t.get h = some o → hi.t.get h' = none → T.get h' = some o' → E2 h = some e → E2 h' = some e' → e.1 = e'.1 → roB h = true ∧ roB h' = true := fun h h' o o' e e' g k1 k2 he he' hee => by
      obtain ⟨e1, h1, h2⟩ := old h' o' k2
      rw [h2] at he'
      obtain rfl := Option.some.inj he'
      cases hro : roB h with
      | false =>
        rcases hO.frm.new h o e g he hro with ⟨h0, o0, e0, g1, g2, gr, g3⟩ | g1
        · rcases hR.inj _ _ _ _ _ _ (hsub h0 o0 g1) k2 g2 h1 (g3.trans hee) with this | this
          · subst this
            rw [k1] at g1
            simp at g1
          · rw [gr] at this
            simp at this
        · have := hR.lt k2 h1
          omega
      | true =>
        have hL : h ∉ L := fun hL => by have := hLr h hL; rw [hro] at this; simp at this
        have g' := g
        rw [hq h hL] at g'
        have g2 := hsub h o g'
        obtain ⟨e2, h3, h4⟩ := old h o g2
        rw [h4] at he
        obtain rfl := Option.some.inj he
        rcases hR.inj _ _ _ _ _ _ g2 k2 h3 h1 hee with this | this
        · subst this
          rw [k1] at g'
          simp at g'
        · exact ⟨rfl, this.2⟩
    rcases cls h o ho with g | ⟨g1, g2⟩ <;> rcases cls h' o' ho' with k | ⟨k1, k2⟩
    · exact hO.rep.inj _ _ _ _ _ _ g k he he' hee
    · exact .inr (mix h h' o o' e e' g k1 k2 he he' hee)
    · exact .inr (mix h' h o' o e' e k g1 g2 he' he hee.symm).symm
    · obtain ⟨e1, h1, h2⟩ := old h o g2
      obtain ⟨e2, h3, h4⟩ := old h' o' k2
      rw [h2] at he
      rw [h4] at he'
      obtain rfl := Option.some.inj he
      obtain rfl := Option.some.inj he'
      exact hR.inj _ _ _ _ _ _ g2 k2 h1 h3 hee
  · rw [hO.frm.keep k (by have := hF.size; omega) fun h o e ho he hro heq => ?_, hF.keep k hk hn]
    rcases hF.new h o e (hsub h o ho) he hro with ⟨h0, o0, e0, g1, g2, gr, g3⟩ | g
    · exact hn h0 o0 e0 g1 g2 gr (g3.trans heq)
    · omega
  · have fromT : ∀ h o e, T.get h = some o → E1 h = some e → roB h = false → (∃ h0 o0 e0, t0.get h0 = some o0 ∧ E0 h0 = some e0 ∧ roB h0 = false ∧ e0.1 = e.1) ∨ w0.heap.size ≤ e.1 := fun h o e ho he hr => hF.new h o e ho he hr
    rcases cls h o ho with g | ⟨g1, g2⟩
    · rcases hO.frm.new h o e g he hro with ⟨h0, o0, e0, g1, g2, gr, g3⟩ | g1
      · rcases fromT h0 o0 e0 (hsub h0 o0 g1) g2 gr with ⟨h1, o1, e1, k1, k2, kr, k3⟩ | k
        · exact .inl ⟨h1, o1, e1, k1, k2, kr, k3.trans g3⟩
        · exact .inr (by omega)
      · exact .inr (by have := hF.size; omega)
    · obtain ⟨e1, h1, h2⟩ := old h o g2
      rw [h2] at he
      obtain rfl := Option.some.inj he
      exact fromT h o e1 g2 h1 hro
/-- What is held when some have come up. -/
structure DInv (E0 : Env) (s : Sv) (a0 : Act) (w0 : World) (nxE : Nat) (T : Tr VO) (F : Tr V) (und : Nat → Prop) (E' : Env) (a' : Act) (w' : World) : Prop where
  le : E0.le E'
  off : ∀ h, (h < s.hp.nx ∨ nxE ≤ h) → E' h = E0 h
  rep : Rep E' T w'
  frm : Frm E0 s.hp.t w0 E' T w'
  fr : FrR E' F a'
  sz : a'.tmps.size = s.n
  df : a'.defers = a0.defers
  free : ∀ h, und h → E' h = none
section
variable {P : Program} {C : Cx} (hC : COk P C) {call : CallF} (hcall : CallOk P call)
include hC hcall
set_option maxHeartbeats 4000000 in
theorem vdraw_ok {id : Nat} {ops : List Oper} {s : Sv} {d' : DSt} (hchk : (apartAll ops (preAll ops 0 .lf) ops 0 [] && edgesOk (preAll ops 0 .lf) ops 0) = true)
    (h1 : vdraw C call s.n ops (preAll ops 0 .lf) s.hp.t ops 0 ⟨true, [], 0, s.fr, s.hp, []⟩ = some d') {E : Env} {a : Act} {w : World} (hS : SvR E s a w) (hf : Free E s.hp.nx d'.hp.nx) :
    (Code.region id ops.toArray true).wp P (Post E s w .norm ⟨d'.fr, s.df, d'.hp, s.n⟩) a w := by
  simp only [Bool.and_eq_true] at hchk
  obtain ⟨hap, hed⟩ := hchk
  have hed := edgesOk_spec hed
  have hap := apartAll_spec hap
  simp only [Nat.zero_add] at hed hap
  obtain ⟨S, S0, SN, hSt⟩ := vdraw_states h1
  simp only [Nat.zero_add] at hSt
  have hlen : ops.length ≤ trMax := by
    rcases Nat.eq_zero_or_pos ops.length with h0 | h0
    · omega
    · have := (hed (ops.length - 1) _ (List.getElem?_eq_getElem (by omega))).2.2.2
      unfold trMax
      omega
  have hpre := (preAll_spec ops 0 .lf (by omega)).2
  simp only [Nat.zero_add] at hpre
  -- what is ahead of what
  have hM : ∀ i o, ops[i]? = some o → ∀ j, bitOf (maskOf (preAll ops 0 .lf) i) j = true ↔ ∃ e ∈ o.after.toList, Region.binds .any e = true ∧ e.on < i ∧ (j = e.on ∨ bitOf (maskOf (preAll ops 0 .lf) e.on) j = true) := by
    intro i o ho j
    obtain ⟨acc, g1, g2⟩ := hpre i o ho
    have hm : maskOf (preAll ops 0 .lf) i = preMask acc o.after.toList 0 := by unfold maskOf; rw [g1]
    have hb := (hed i o ho).1
    unfold edgeB at hb
    rw [allL_iff] at hb
    rw [hm, preMask_bit, bit_zero]
    simp only [Bool.false_eq_true, false_or]
    constructor
    · rintro ⟨e, he, hbe, hj⟩
      have hlt : e.on < i := by have := hb e he; rw [hbe] at this; simpa [Nat.blt_eq] using this
      refine ⟨e, he, hbe, hlt, ?_⟩
      unfold maskOf at hj ⊢
      rw [g2 e.on hlt] at hj
      exact hj
    · rintro ⟨e, he, hbe, hlt, hj⟩
      refine ⟨e, he, hbe, ?_⟩
      unfold maskOf at hj ⊢
      rw [g2 e.on hlt]
      exact hj
  generalize hpres : preAll ops 0 .lf = pres at *
  have hget : ∀ i, i < ops.length → ∃ o, ops[i]? = some o := fun i hi => ⟨_, List.getElem?_eq_getElem hi⟩
  have hin : ∀ {i : Nat} {o : Oper}, ops[i]? = some o → i < ops.length := fun h => (List.getElem?_eq_some_iff.1 h).1
  have hBlt : ∀ i, i < ops.length → ∀ j, bitOf (maskOf pres i) j = true → j < i := by
    intro i
    induction i using Nat.strongRecOn with
    | _ i ih =>
      intro hi j hj
      obtain ⟨o, ho⟩ := hget i hi
      obtain ⟨e, _, _, hlt, h⟩ := (hM i o ho j).1 hj
      rcases h with rfl | h
      · exact hlt
      · have := ih e.on hlt (by omega) j h
        omega
  have hBtr : ∀ i, i < ops.length → ∀ k j, bitOf (maskOf pres i) k = true → bitOf (maskOf pres k) j = true → bitOf (maskOf pres i) j = true := by
    intro i
    induction i using Nat.strongRecOn with
    | _ i ih =>
      intro hi k j hk hj
      obtain ⟨o, ho⟩ := hget i hi
      obtain ⟨e, he, hbe, hlt, h⟩ := (hM i o ho k).1 hk
      refine (hM i o ho j).2 ⟨e, he, hbe, hlt, .inr ?_⟩
      rcases h with rfl | h
      · exact hj
      · exact ih e.on hlt (by omega) k j h hj
  -- what each has come to
  have hfact : ∀ k, ∃ x, ∀ o, ops[k]? = some o → Fact C call s.n ops pres s.hp.t o k (S k) (S (k + 1)) x := fun k => by
    rcases Nat.lt_or_ge k ops.length with hk | hk
    · obtain ⟨o, ho⟩ := hget k hk
      obtain ⟨x, hx⟩ := vd1_fact (hSt k o ho)
      exact ⟨x, fun o' ho' => by rw [ho] at ho'; obtain rfl := Option.some.inj ho'; exact hx⟩
    · exact ⟨(undV, [], false), fun o ho => by have := hin ho; omega⟩
  obtain ⟨X, hX⟩ := Classical.skolem.1 hfact
  let lg : Nat → List (Nat × Option VO) := fun k => if k < ops.length then (X k).2.1 else []
  let vs : Nat → V := fun k => (X k).1
  let ds : Nat → Option Tmp := fun k => (ops[k]?).bind (·.dst)
  have hlg : ∀ k, k < ops.length → lg k = (X k).2.1 := fun k hk => by simp only [lg, if_pos hk]
  have hquiet : ∀ k o, ops[k]? = some o → (X k).2.2 = false → lg k = [] := fun k o ho hx => by
    rw [hlg k (hin ho)]; exact ((hX k o ho).2.1 hx).1
  have hlo : ∀ k o, ops[k]? = some o → ∀ x ∈ lg k, x.1 < (S (k + 1)).hp.nx ∧ roB x.1 = false := fun k o ho x hx => by
    cases hb : (X k).2.2 with
    | false => rw [hquiet k o ho hb] at hx; simp at hx
    | true =>
      obtain ⟨_, _, _, Hi, q, _, _, _, _, e3, _, e5, _⟩ := (hX k o ho).2.2.2 hb
      rw [hlg k (hin ho)] at hx
      rw [e3]
      exact logOk_spec e5 x hx
  have hsm : ∀ k, ∀ x ∈ lg k, roB x.1 = false := fun k x hx => by
    rcases Nat.lt_or_ge k ops.length with hk | hk
    · obtain ⟨o, ho⟩ := hget k hk
      exact (hlo k o ho x hx).2
    · simp only [lg] at hx
      rw [if_neg (by omega)] at hx
      simp at hx
  have hdsm : ∀ k d, ds k = some d → d < trMax := fun k d hd => by
    simp only [ds, Option.bind_eq_some_iff] at hd
    obtain ⟨o, ho, hd⟩ := hd
    have := (hX k o ho).1
    rw [hd] at this
    simp only [setD] at this
    split at this
    · rename_i hb
      have hdlt : d < s.n := by simpa [Nat.blt_eq] using hb
      exact Nat.lt_of_lt_of_le hdlt hS.n
    · simp at this
  -- handles grow
  have hnx1 : ∀ k o, ops[k]? = some o → (S k).hp.nx ≤ (S (k + 1)).hp.nx := fun k o ho => by
    cases hb : (X k).2.2 with
    | false =>
      obtain ⟨_, _, _, _, e, _⟩ := (hX k o ho).2.1 hb
      rw [e]; exact Nat.le_refl _
    | true =>
      obtain ⟨_, _, _, Hi, q, hq, _, _, _, e3, _, _, _⟩ := (hX k o ho).2.2.2 hb
      rw [e3]; exact (vop_nx hcall.nx hq).nx
  have hnx : ∀ k, k ≤ ops.length → ∀ j, j ≤ k → (S j).hp.nx ≤ (S k).hp.nx := by
    intro k
    induction k with
    | zero => intro _ j hj; have : j = 0 := by omega
              subst this; exact Nat.le_refl _
    | succ k ih =>
      intro hk j hj
      obtain ⟨o, ho⟩ := hget k (by omega)
      rcases Nat.lt_or_ge j (k + 1) with h | h
      · exact Nat.le_trans (ih (by omega) j (by omega)) (hnx1 k o ho)
      · have : j = k + 1 := by omega
        subst this; exact Nat.le_refl _
  have hnxS : (S 0).hp.nx = s.hp.nx := by rw [S0]
  have hnxE : (S ops.length).hp.nx = d'.hp.nx := by rw [SN]
  -- memory, frames as they were in the order of the text
  have hmem : ∀ k, k ≤ ops.length → ∀ h, (S k).hp.t.get h = (TDm s.hp.t lg (fun _ => true) k).get h := by
    intro k
    induction k with
    | zero => intro _ h; rw [S0]; rfl
    | succ k ih =>
      intro hk h
      obtain ⟨o, ho⟩ := hget k (by omega)
      rw [TDm_succ hsm, if_pos rfl, ← ih (by omega)]
      cases hb : (X k).2.2 with
      | false =>
        obtain ⟨_, _, _, _, e, _⟩ := (hX k o ho).2.1 hb
        rw [hquiet k o ho hb, e]; rfl
      | true =>
        obtain ⟨_, _, _, Hi, q, hq, e1, _, _, e3, e4, e5, e6⟩ := (hX k o ho).2.2.2 hb
        rw [hlg k (hin ho)]
        rcases e6 with ⟨_, rfl, e7, _⟩ | ⟨_, _, e7, _⟩
        · rw [e7, e1, logSince_lookup]
          obtain ⟨_, l, x2, x3⟩ := vop_nx hcall.nx hq
          simp only [List.append_nil] at x2
          split
          · rename_i hh
            split at hh
            · simp only [Option.some.injEq] at hh; exact hh
            · simp at hh
          · rename_i hh
            split at hh
            · simp at hh
            · rename_i hn
              exact x3 h (by rw [← x2]; exact hn)
        · rw [e7, playLog_get _ _ _ (fun z hz => (logOk_spec e5 z hz).2)]
  have hplay : ∀ k, k ≤ ops.length → ∀ m, playDn s.hp.t m (S k).dns = TDm s.hp.t lg (fun j => bitOf m j) k := by
    intro k
    induction k with
    | zero => intro _ m; rw [S0]; rfl
    | succ k ih =>
      intro hk m
      obtain ⟨o, ho⟩ := hget k (by omega)
      simp only [TDm]
      rw [← ih (by omega)]
      cases hb : (X k).2.2 with
      | false =>
        obtain ⟨_, _, e, _⟩ := (hX k o ho).2.1 hb
        rw [hquiet k o ho hb, e]
        simp [playLog]
      | true =>
        obtain ⟨_, _, _, Hi, q, hq, e1, e2, _⟩ := (hX k o ho).2.2.2 hb
        rw [e2, hlg k (hin ho)]
        simp only [playDn]
        by_cases hh : bitOf m k = true
        · rw [if_pos hh]; simp only [hh]
        · rw [if_neg hh]
          have hh : bitOf m k = false := by simpa using hh
          simp only [hh]
  have hnp : ∀ k, k ≤ ops.length → ∀ j, bitOf (S k).np j = true ↔ (j < k ∧ (X j).2.2 = true) := by
    intro k
    induction k with
    | zero => intro _ j; rw [S0]; simp [bit_zero]
    | succ k ih =>
      intro hk j
      obtain ⟨o, ho⟩ := hget k (by omega)
      cases hb : (X k).2.2 with
      | false =>
        obtain ⟨_, _, _, e, _⟩ := (hX k o ho).2.1 hb
        rw [e, ih (by omega)]
        constructor
        · rintro ⟨h1, h2⟩; exact ⟨by omega, h2⟩
        · rintro ⟨h1, h2⟩
          refine ⟨?_, h2⟩
          rcases Nat.lt_or_ge j k with h | h
          · exact h
          · have : j = k := by omega
            subst this; rw [hb] at h2; simp at h2
      | true =>
        obtain ⟨_, _, _, Hi, q, hq, e1, _, e2, _⟩ := (hX k o ho).2.2.2 hb
        rw [e2, bit_or, bit_one]
        simp only [Bool.or_eq_true, decide_eq_true_eq]
        rw [ih (by omega)]
        constructor
        · rintro (⟨h1, h2⟩ | h)
          · exact ⟨by omega, h2⟩
          · subst h; exact ⟨by omega, hb⟩
        · rintro ⟨h1, h2⟩
          rcases Nat.lt_or_ge j k with h | h
          · exact .inl ⟨h, h2⟩
          · exact .inr (by omega)
  have hfree : ∀ k, k ≤ ops.length → (S k).free = true → ∀ j, j < k → (X j).2.2 = true → ∀ x ∈ lg j, (S j).hp.nx ≤ x.1 := by
    intro k
    induction k with
    | zero => intro _ _ j hj; omega
    | succ k ih =>
      intro hk hfr j hj hbj
      obtain ⟨o, ho⟩ := hget k (by omega)
      cases hb : (X k).2.2 with
      | false =>
        obtain ⟨_, e, _⟩ := (hX k o ho).2.1 hb
        rw [e] at hfr
        refine ih (by omega) hfr j ?_ hbj
        rcases Nat.lt_or_ge j k with h | h
        · exact h
        · have : j = k := by omega
          subst this; rw [hb] at hbj; simp at hbj
      | true =>
        obtain ⟨_, _, _, Hi, q, hq, e1, _, _, _, _, _, e6⟩ := (hX k o ho).2.2.2 hb
        have hfk : (S k).free = true ∧ freshLog (S k).hp.nx (X k).2.1 = true := by
          rcases e6 with ⟨_, _, _, e⟩ | ⟨_, _, _, e', e⟩
          · rw [e] at hfr; simpa using hfr
          · rw [e] at hfr; exact ⟨hfr, e'⟩
        rcases Nat.lt_or_ge j k with h | h
        · exact ih (by omega) hfk.1 j h hbj
        · have : j = k := by omega
          subst this
          rw [hlg j (hin ho)]
          exact fresh_spec hfk.2
  -- two without an order have written new memory alone
  have hun : ∀ j k, j < k → k < ops.length → (X j).2.2 = true → (X k).2.2 = true → bitOf (maskOf pres k) j = false → ∀ x ∈ lg k, (S k).hp.nx ≤ x.1 := by
    intro j k hjk hk hbj hbk hB
    obtain ⟨o, ho⟩ := hget k hk
    obtain ⟨_, _, _, Hi, q, hq, e1, _, _, _, _, _, e6⟩ := (hX k o ho).2.2.2 hbk
    rcases e6 with ⟨e, _⟩ | ⟨_, _, _, e', _⟩
    · have := maskLe_bit e j ((hnp k (by omega) j).2 ⟨hjk, hbj⟩)
      rw [hB] at this; simp at this
    · rw [hlg k hk]; exact fresh_spec e'
  have himp : ∀ j h, (lg j).lookup h ≠ none → j < ops.length ∧ (X j).2.2 = true ∧ h < (S (j + 1)).hp.nx := by
    intro j h hl
    have hj : j < ops.length := by
      rcases Nat.lt_or_ge j ops.length with hk | hk
      · exact hk
      · simp only [lg] at hl
        rw [if_neg (by omega)] at hl
        simp at hl
    obtain ⟨o, ho⟩ := hget j hj
    refine ⟨hj, ?_, ?_⟩
    · cases hb : (X j).2.2 with
      | true => rfl
      | false => rw [hquiet j o ho hb] at hl; simp at hl
    · cases hlo' : (lg j).lookup h with
      | none => exact absurd hlo' hl
      | some v => exact (hlo j o ho _ (mem_of_lookup hlo')).1
  have hmemlog : ∀ j h, (lg j).lookup h ≠ none → ∃ v, (h, v) ∈ lg j := fun j h hl => by
    cases hlo' : (lg j).lookup h with
    | none => exact absurd hlo' hl
    | some v => exact ⟨v, mem_of_lookup hlo'⟩
  -- two without an order write apart
  have hapart : ∀ j k h, j ≠ k → (lg j).lookup h ≠ none → (lg k).lookup h ≠ none → bitOf (maskOf pres k) j = false → bitOf (maskOf pres j) k = false → False := by
    have half : ∀ j k h, j < k → (lg j).lookup h ≠ none → (lg k).lookup h ≠ none → bitOf (maskOf pres k) j = false → False := by
      intro j k h hjk hj hk hB
      obtain ⟨j1, j2, j3⟩ := himp j h hj
      obtain ⟨k1, k2, k3⟩ := himp k h hk
      obtain ⟨v, hv⟩ := hmemlog k h hk
      have := hun j k hjk k1 j2 k2 hB _ hv
      have := hnx k (by omega) (j + 1) (by omega)
      simp only at *
      omega
    intro j k h hne hj hk hB hB'
    rcases Nat.lt_or_ge j k with h' | h'
    · exact half j k h h' hj hk hB
    · exact half k j h (by omega) hk hj hB'
  have hdns : ∀ k, k ≤ ops.length → ∀ j, j < k → (X j).2.2 = true → (⟨j, lg j⟩ : Dn) ∈ (S k).dns := by
    intro k
    induction k with
    | zero => intro _ j hj; omega
    | succ k ih =>
      intro hk j hj hbj
      obtain ⟨o, ho⟩ := hget k (by omega)
      cases hb : (X k).2.2 with
      | false =>
        obtain ⟨_, _, e, _⟩ := (hX k o ho).2.1 hb
        rw [e]
        refine ih (by omega) j ?_ hbj
        rcases Nat.lt_or_ge j k with h | h
        · exact h
        · have : j = k := by omega
          subst this; rw [hb] at hbj; simp at hbj
      | true =>
        obtain ⟨_, _, _, Hi, q, hq, e1, e2, _⟩ := (hX k o ho).2.2.2 hb
        rw [e2]
        rcases Nat.lt_or_ge j k with h | h
        · exact List.mem_cons_of_mem _ (ih (by omega) j h hbj)
        · have : j = k := by omega
          subst this
          rw [hlg j (hin ho)]
          exact List.mem_cons_self
  have hrds : ∀ k, k ≤ ops.length → ∀ j, j < k → ∀ p, p ∈ (S (j + 1)).rds → p ∈ (S k).rds := by
    intro k
    induction k with
    | zero => intro _ j hj; omega
    | succ k ih =>
      intro hk j hj p hp
      obtain ⟨o, ho⟩ := hget k (by omega)
      rcases Nat.lt_or_ge j k with h | h
      · exact (hX k o ho).2.2.1 p (ih (by omega) j h p hp)
      · have : j = k := by omega
        subst this
        exact hp
  have hHi : ∀ k o, ops[k]? = some o → (X k).2.2 = true → ∃ Hi q, vop C call (S k).fr ⟨Hi, (S k).hp.nx, []⟩ o.op = some (.v (vs k), q) ∧ lg k = logSince q q.log ∧ (S (k + 1)).hp.nx = q.nx ∧ (∀ h o', Hi.get h = some o' → (TDm s.hp.t lg (fun j => bitOf (maskOf pres k) j) ops.length).get h = some o') ∧
      ∀ j, j < k → (X j).2.2 = true → bitOf (maskOf pres k) j = false → (∀ x ∈ lg j, (S j).hp.nx ≤ x.1) ∨ (∀ h, (lg j).lookup h ≠ none → Hi.get h = none) := by
    intro k o ho hb
    obtain ⟨_, _, _, Hi, q, hq, e1, _, _, e3, _, _, e6⟩ := (hX k o ho).2.2.2 hb
    refine ⟨Hi, q, hq, by rw [hlg k (hin ho)]; exact e1, e3, fun h o' hh => ?_, fun j hjk hbj hB => ?_⟩
    rotate_left
    · rcases e6 with ⟨e, _⟩ | ⟨_, rfl, _⟩
      · have := maskLe_bit e j ((hnp k (by have := hin ho; omega) j).2 ⟨hjk, hbj⟩)
        rw [hB] at this; simp at this
      · cases hfk : (S k).free with
        | true => exact .inl (hfree k (by have := hin ho; omega) hfk j hjk hbj)
        | false =>
          refine .inr fun h hl => ?_
          cases hg : (seenV false s.hp.t (maskOf pres k) (S k).dns).get h with
          | none => rfl
          | some o' =>
            have := (dropDn_get (S k).dns h o' hg).2 _ (hdns k (by have := hin ho; omega) j hjk hbj) hB
            exact absurd this hl
    rw [← hh]
    have hle : ∀ {x y : Option VO}, x = y → y = x := fun e => e.symm
    rcases e6 with ⟨e, rfl, e6⟩ | ⟨e, rfl, e6⟩
    rotate_left
    · rw [TDm_out hsm (m := k) ops.length (by have := hin ho; omega) (fun j hj => by
        rw [Bool.eq_false_iff]; intro hB
        have := hBlt k (hin ho) j hB
        omega), ← hplay k (by have := hin ho; omega)]
      cases hfk : (S k).free with
      | true => rfl
      | false =>
        rw [hfk] at hh
        rw [hh]
        exact (dropDn_get (S k).dns h o' hh).1
    apply hle
    rw [TDm_out hsm (m := k) ops.length (by have := hin ho; omega) (fun j hj => by
      rw [Bool.eq_false_iff]; intro hB
      have := hBlt k (hin ho) j hB
      omega)]
    rw [hmem k (by have := hin ho; omega)]
    refine TDm_congr hsm k fun j hj hl => ?_
    obtain ⟨_, hbj, _⟩ := himp j h hl
    exact (maskLe_bit e j ((hnp k (by have := hin ho; omega) j).2 ⟨hj, hbj⟩)).symm
  have hframe : ∀ k, k ≤ ops.length → ∀ t, (S k).fr.get t = (FT s.fr ds vs (fun _ => true) k).get t := by
    intro k
    induction k with
    | zero => intro _ t; rw [S0]; rfl
    | succ k ih =>
      intro hk t
      obtain ⟨o, ho⟩ := hget k (by omega)
      rw [FT_succ hdsm, ← ih (by omega)]
      have hd : ds k = o.dst := by simp only [ds, ho, Option.bind_some]
      have h0 := (hX k o ho).1
      cases hdo : o.dst with
      | none =>
        rw [hdo] at h0 hd
        simp only [setD, Option.some.injEq] at h0
        rw [← h0, hd, if_neg (by simp)]
      | some d =>
        rw [hdo] at h0 hd
        simp only [setD] at h0
        split at h0
        · rename_i hblt
          have hdlt : d < s.n := by simpa [Nat.blt_eq] using hblt
          simp only [Option.some.injEq] at h0
          rw [← h0, hd, Tr.get_set _ _ _]
          by_cases e : t = d
          · subst e; rw [if_pos rfl, if_pos ⟨rfl, rfl⟩]
          · rw [if_neg e, if_neg (fun h => e (Option.some.inj h.2).symm)]
        · simp at h0
  -- a slot that an operation looks at holds the same, in whatever order
  have hlook : ∀ (D : Nat → Bool), (∀ k, k < ops.length → D k = true → ∀ j, bitOf (maskOf pres k) j = true → D j = true) → ∀ i o, ops[i]? = some o → D i = false → (∀ j, bitOf (maskOf pres i) j = true → D j = true) →
      ∀ t, (sameDst (some t) (guardT ops o) = true ∨ ∃ x ∈ o.op.operands.toList, x = .tmp t) → (S i).fr.get t = (FT s.fr ds vs D ops.length).get t := by
    intro D hcl i o ho hDi hBi t ht
    rw [hframe i (by have := hin ho; omega)]
    rw [show (FT s.fr ds vs (fun _ => true) i).get t = (FT s.fr ds vs (fun j => decide (j < i)) i).get t from FT_congr hdsm i fun j hj _ => by simp [hj]]
    rw [← FT_out hdsm (m := i) ops.length (by have := hin ho; omega) (fun j hj => by simp; omega) t]
    refine FT_congr hdsm ops.length fun j hj hdj => ?_
    obtain ⟨oj, hoj⟩ := hget j hj
    have hdo : oj.dst = some t := by simpa only [ds, hoj, Option.bind_some] using hdj
    rcases Nat.lt_trichotomy j i with h | h | h
    · have h2 := (hap i o ho).2 j oj h hoj
      have hB : bitOf (maskOf pres i) j = true := by
        unfold apartB at h2
        split at h2
        · assumption
        · exfalso
          split at h2
          · simp at h2
          · rename_i hno
            simp only [Bool.or_eq_false_iff] at hno
            rcases ht with ht | ⟨x, hx, rfl⟩
            · rw [hdo, ht] at hno; simp at hno
            · have := hno.1.1.1.2
              rw [Bool.eq_false_iff] at this
              exact this (anyL_iff.2 ⟨_, hx, sameTmp_iff.2 ⟨t, hdo, rfl⟩⟩)
      rw [hBi j hB]
      simp [h]
    · subst h
      rw [hDi]; simp
    · have h2 := (hap j oj hoj).2 i o h ho
      have hB : bitOf (maskOf pres j) i = true := by
        unfold apartB at h2
        split at h2
        · assumption
        · exfalso
          split at h2
          · simp at h2
          · rename_i hno
            simp only [Bool.or_eq_false_iff] at hno
            rcases ht with ht | ⟨x, hx, rfl⟩
            · have := hno.2; rw [hdo, ht] at this; simp at this
            · have := hno.1.1.2
              rw [Bool.eq_false_iff] at this
              exact this (anyL_iff.2 ⟨_, hx, sameTmp_iff.2 ⟨t, hdo, rfl⟩⟩)
      have hDj : D j = false := by
        rw [Bool.eq_false_iff]; intro hDj
        have := hcl j hj hDj i hB
        rw [hDi] at this; simp at this
      rw [hDj]
      simp; omega
  let T : (Nat → Bool) → Tr VO := fun D => TDm s.hp.t lg D ops.length
  let F : (Nat → Bool) → Tr V := fun D => FT s.fr ds vs D ops.length
  let und : (Nat → Bool) → Nat → Prop := fun D h => ∃ i, i < ops.length ∧ D i = false ∧ (S i).hp.nx ≤ h ∧ h < (S (i + 1)).hp.nx
  let Cl : (Nat → Bool) → Prop := fun D => ∀ k, k < ops.length → D k = true → ∀ j, bitOf (maskOf pres k) j = true → D j = true
  let up : (Nat → Bool) → Nat → Nat → Bool := fun D i j => if j = i then true else D j
  -- the frame behind one more
  have hFup : ∀ D i o, Cl D → ops[i]? = some o → D i = false → ∀ t, (F (up D i)).get t = if o.dst = some t then some (vs i) else (F D).get t := by
    intro D i o hcl ho hDi t
    by_cases hd : o.dst = some t
    · rw [if_pos hd]
      refine FT_last hdsm ops.length (hin ho) (by simp [up]) (by simp only [ds, ho, Option.bind_some]; exact hd) fun j h1 h2 hDj hdj => ?_
      obtain ⟨oj, hoj⟩ := hget j h2
      have hdo : oj.dst = some t := by simpa only [ds, hoj, Option.bind_some] using hdj
      have hDj' : D j = true := by simpa [up, show j ≠ i by omega] using hDj
      have h3 := (hap j oj hoj).2 i o h1 ho
      unfold apartB at h3
      split at h3
      · rename_i hB
        have := hcl j h2 hDj' i hB
        rw [hDi] at this; simp at this
      · split at h3
        · simp at h3
        · rename_i hno
          simp only [Bool.or_eq_false_iff] at hno
          have := hno.1.1.1.1
          rw [hd, hdo] at this
          simp [sameDst] at this
    · rw [if_neg hd]
      refine FT_congr hdsm ops.length fun j hj hdj => ?_
      simp only [up]
      by_cases e : j = i
      · subst e
        simp only [ds, ho, Option.bind_some] at hdj
        exact absurd hdj hd
      · rw [if_neg e]
  have hclup : ∀ D i o, Cl D → ops[i]? = some o → (∀ j, bitOf (maskOf pres i) j = true → D j = true) → Cl (up D i) := by
    intro D i o hcl ho hBi k hk hDk j hB
    simp only [up] at hDk ⊢
    by_cases e : j = i
    · rw [if_pos e]
    · rw [if_neg e]
      by_cases e' : k = i
      · subst e'; exact hBi j hB
      · rw [if_neg e'] at hDk
        exact hcl k hk hDk j hB
  have hundup : ∀ D i h, und (up D i) h → und D h := by
    intro D i h ⟨k, k1, k2, k3⟩
    simp only [up] at k2
    by_cases e : k = i
    · rw [if_pos e] at k2; simp at k2
    · rw [if_neg e] at k2; exact ⟨k, k1, k2, k3⟩
  -- one operation
  have hwant : ∀ D i o, Cl D → ops[i]? = some o → D i = false → (∀ j, bitOf (maskOf pres i) j = true → D j = true) → wantV ops (S i).fr o = wantV ops (F D) o := by
    intro D i o hcl ho hDi hBi
    unfold wantV
    cases hg : o.guard with
    | none => rfl
    | some jt =>
      obtain ⟨j, t⟩ := jt
      simp only
      cases hoj : getL ops j with
      | none => rfl
      | some oj =>
        simp only [Option.bind_some]
        cases hd : oj.dst with
        | none => rfl
        | some d =>
          simp only [Option.bind_some]
          rw [hlook D hcl i o ho hDi hBi d (.inl (sameDst_iff.2 ⟨d, rfl, by unfold guardT; rw [hg]; simp only [hoj, Option.bind_some, hd]⟩))]
  have hops : ∀ D i o, Cl D → ops[i]? = some o → D i = false → (∀ j, bitOf (maskOf pres i) j = true → D j = true) → ∀ x ∈ o.op.operands.toList, evV (S i).fr x = evV (F D) x := by
    intro D i o hcl ho hDi hBi x hx
    exact evV_congr fun t hxt => hlook D hcl i o ho hDi hBi t (.inr ⟨x, hx, hxt⟩)
  have hstep : ∀ D i o, Cl D → ops[i]? = some o → D i = false → (∀ j, bitOf (maskOf pres i) j = true → D j = true) → ∀ E' a' w', DInv E s a w d'.hp.nx (T D) (F D) (und D) E' a' w' → ∀ K Q, (∀ E'' a'' w'', DInv E s a w d'.hp.nx (T (up D i)) (F (up D i)) (und (up D i)) E'' a'' w'' → K a'' w'') →
      wpOp P ops.toArray Q i K a' w' := by
    intro D i o hcl ho hDi hBi E' a' w' hI K Q hK
    have hi := hin ho
    unfold wpOp
    simp only [List.getElem?_toArray, ho]
    have hfrup : ∀ {E'' : Env} {a'' : Act} {fr' : Tr V}, FrR E'' fr' a'' → (∀ t, fr'.get t = if o.dst = some t then some (vs i) else (F D).get t) → FrR E'' (F (up D i)) a'' := fun {E'' a'' fr'} hfr hg =>
      ⟨fun t v hv => by rw [hFup D i o hcl ho hDi] at hv; exact hfr.look t v (by rw [hg]; exact hv), hfr.gl⟩
    have hset : ∀ {fr' : Tr V}, setD s.n (F D) o.dst (vs i) = some fr' → ∀ t, fr'.get t = if o.dst = some t then some (vs i) else (F D).get t := by
      intro fr' h t
      cases hdo : o.dst with
      | none =>
        rw [hdo] at h
        simp only [setD, Option.some.injEq] at h
        rw [← h, if_neg (by simp)]
      | some d =>
        rw [hdo] at h
        simp only [setD] at h
        split at h
        · rename_i hblt
          have hdlt : d < s.n := by simpa [Nat.blt_eq] using hblt
          simp only [Option.some.injEq] at h
          rw [← h, Tr.get_set _ _ _]
          by_cases e : t = d
          · subst e; rw [if_pos rfl, if_pos rfl]
          · rw [if_neg e, if_neg (fun h => e (Option.some.inj h).symm)]
        · simp at h
    have hset2 : ∃ fr', setD s.n (F D) o.dst (vs i) = some fr' := by
      have h0 := (hX i o ho).1
      cases hdo : o.dst with
      | none => exact ⟨_, rfl⟩
      | some d =>
        rw [hdo] at h0
        simp only [setD] at h0 ⊢
        split at h0
        · rename_i hb; first | exact ⟨_, rfl⟩ | (rw [hb]; exact ⟨_, rfl⟩)
        · simp at h0
    obtain ⟨fr', hfr'⟩ := hset2
    have hw := hwant D i o hcl ho hDi hBi
    cases hb : (X i).2.2 with
    | false =>
      have hTup : T (up D i) = T D := by
        simp only [T]
        have : ∀ n, TDm s.hp.t lg (up D i) n = TDm s.hp.t lg D n := fun n => by
          induction n with
          | zero => rfl
          | succ n ih =>
            simp only [TDm, ih]
            by_cases e : n = i
            · subst e
              rw [hquiet n o ho hb]
              simp [playLog]
            · simp only [up, if_neg e]
        exact this _
      have hfin : ∀ x, ren E' (vs i) = some x → K (a'.put o.dst x) w' := fun x hx => by
        refine hK E' _ _ ⟨hI.le, hI.off, by rw [hTup]; exact hI.rep, by rw [hTup]; exact hI.frm, ?_, by rw [put_size]; exact hI.sz, by rw [put_df]; exact hI.df, fun h hh => hI.free h (hundup D i h hh)⟩
        exact hfrup (hI.fr.put hS.n hI.sz hfr' hx) (hset hfr')
      obtain ⟨_, _, _, _, _, hcase⟩ := (hX i o ho).2.1 hb
      rcases hcase with ⟨k1, k2⟩ | ⟨k1, k2, k3⟩ | ⟨k1, _, R, q, hq, hql, hqn, hRu, hRm⟩
      · rw [hw] at k1
        rw [want_ok hI.fr k1]
        simp only [Bool.false_eq_true, if_false]
        refine hfin undef ?_
        have : vs i = undV := k2
        rw [this]; rfl
      · rw [hw] at k1
        rw [want_ok hI.fr k1]
        simp only [if_true]
        rw [(vop_congr (C := C) (call := call) (hp := s.hp) (hops D i o hcl ho hDi hBi)).2] at k3
        obtain ⟨dst, op, ty, ps, af, gd⟩ := o
        obtain ⟨x, q1, q2⟩ := vpure_ok hC hI.fr k3 dst ty ps af gd
        left
        unfold Oper.wp
        rw [q2 w']
        exact hfin x q1
      · rw [hw] at k1
        rw [want_ok hI.fr k1]
        simp only [if_true]
        left
        rw [(vop_congr (hops D i o hcl ho hDi hBi)).1] at hq
        obtain ⟨_, lq, x2, x3⟩ := vop_nx hcall.nx hq
        simp only [List.append_nil] at x2
        rw [hql] at x2
        subst x2
        have hsub : ∀ h o', (subHp (S i).hp.t R).get h = some o' → (T D).get h = some o' := by
          intro h o' hh
          obtain ⟨g1, g2⟩ := subHp_get hh
          rw [hmem i (by omega)] at g2
          rw [← g2]
          rw [show (TDm s.hp.t lg (fun _ => true) i).get h = (TDm s.hp.t lg (fun j => decide (j < i)) i).get h from TDm_congr hsm i fun j hj _ => by simp [hj]]
          rw [← TDm_out hsm (m := i) ops.length (by omega) (fun j hj => by simp; omega)]
          refine TDm_congr hsm ops.length fun j hj hl => ?_
          obtain ⟨j1, j2, j3⟩ := himp j h hl
          rcases Nat.lt_trichotomy j i with h' | h' | h'
          · have hB : bitOf (maskOf pres i) j = true := by
              cases hb' : bitOf (maskOf pres i) j with
              | true => rfl
              | false => exact absurd (untouched_spec (hRu h g1) _ (hdns i (by omega) j h' j2) hb') hl
            rw [hBi j hB]
            simp [h']
          · subst h'
            rw [hb] at j2; simp at j2
          · have hB : bitOf (maskOf pres j) i = true := by
              cases hb' : bitOf (maskOf pres j) i with
              | true => rfl
              | false =>
                obtain ⟨oj, hoj⟩ := hget j j1
                have := rdsOk_spec ((hX j oj hoj).2.2.2 j2).2.2.1 _ (hrds j (by omega) i h' _ hRm) hb' h g1
                rw [hlg j j1] at hl
                exact absurd this hl
            have hDj : D j = false := by
              rw [Bool.eq_false_iff]; intro hDj
              have := hcl j hj hDj i hB
              rw [hDi] at this; simp at this
            rw [hDj]
            simp; omega
        have hrepHi : Rep E' (subHp (S i).hp.t R) w' := ⟨fun h o' hh => hI.rep.has h o' (hsub h o' hh), fun h h' o1 o2 e e' hh hh' => hI.rep.inj h h' o1 o2 e e' (hsub _ _ hh) (hsub _ _ hh')⟩
        have hsv : SvR E' ⟨F D, s.df, ⟨subHp (S i).hp.t R, (S i).hp.nx, []⟩, s.n⟩ a' w' := ⟨hI.fr, hrepHi, hI.sz, hS.n, by rw [hI.df]; exact hS.df.mono hI.le⟩
        have hfree' : Free E' (S i).hp.nx q.nx := fun h g1 g2 => by omega
        refine op_step hC hcall hsv hq hfree' ⟨fr', hfr', fun E'' x w'' ho' hsv' => ?_⟩
        obtain ⟨r1, r2⟩ := out_frame (T' := T (up D i)) (L := []) hI.rep hI.frm ho' hsub (fun h => by rw [hTup]; simp) (fun h _ => x3 h (by simp)) fun h hh => by simp at hh
        refine hK E'' _ _ ⟨Env.le_trans hI.le ho'.le, fun h hh => ?_, r1, r2, hfrup hsv'.fr (hset hfr'), hsv'.sz, by rw [put_df]; exact hI.df, fun h hh => ?_⟩
        · rw [ho'.off h (by simp only; omega), hI.off h hh]
        · rw [ho'.off h (by simp only; omega)]
          exact hI.free h (hundup D i h hh)
    | true =>
      obtain ⟨k1, _, _⟩ := (hX i o ho).2.2.2 hb
      rw [hw] at k1
      rw [want_ok hI.fr k1]
      simp only [if_true]
      left
      obtain ⟨Hi, q, hq, hlq, hqn, hHi', hHun⟩ := hHi i o ho hb
      rw [(vop_congr (hops D i o hcl ho hDi hBi)).1] at hq
      obtain ⟨_, lq, x2, x3⟩ := vop_nx hcall.nx hq
      simp only [List.append_nil] at x2
      subst x2
      have hnxi := hnx1 i o ho
      -- the part of memory that it saw lies there
      have hsub : ∀ h o', Hi.get h = some o' → (T D).get h = some o' := by
        intro h o' hh0
        have hh := hHi' h o' hh0
        rw [← hh]
        symm
        refine TDm_congr hsm ops.length fun j hj hl => ?_
        by_cases hB : bitOf (maskOf pres i) j = true
        · rw [hB, hBi j hB]
        · have hB : bitOf (maskOf pres i) j = false := by simpa using hB
          rw [hB]
          rw [eq_comm, Bool.eq_false_iff]
          intro hDj
          have hji : j ≠ i := fun e => by rw [e, hDi] at hDj; simp at hDj
          obtain ⟨j1, j2, j3⟩ := himp j h hl
          have hB' : bitOf (maskOf pres j) i = false := by
            rw [Bool.eq_false_iff]; intro hB'
            have := hcl j j1 hDj i hB'
            rw [hDi] at this; simp at this
          have hfr : (S j).hp.nx ≤ h := by
            obtain ⟨v, hv⟩ := hmemlog j h hl
            rcases Nat.lt_or_ge j i with hlt | hge
            · rcases hHun j hlt j2 hB with g | g
              · exact g _ hv
              · rw [g h hl] at hh0; simp at hh0
            · exact hun i j (by omega) j1 hb j2 hB' _ hv
          have hnone : (TDm s.hp.t lg (fun j => bitOf (maskOf pres i) j) ops.length).get h = s.hp.t.get h := by
            refine TDm_none hsm ops.length fun k hk hBk => ?_
            cases hlk : (lg k).lookup h with
            | none => rfl
            | some v =>
              exfalso
              have hlk' : (lg k).lookup h ≠ none := by rw [hlk]; simp
              have hkj : j ≠ k := fun e => by rw [← e, hB] at hBk; simp at hBk
              obtain ⟨k1, k2, k3⟩ := himp k h hlk'
              by_cases hBjk : bitOf (maskOf pres k) j = true
              · have := hBtr i hi k j hBk hBjk
                rw [hB] at this; simp at this
              · by_cases hBkj : bitOf (maskOf pres j) k = true
                · have h1 := hBlt j j1 k hBkj
                  have := hnx j (by omega) (k + 1) (by omega)
                  omega
                · exact hapart j k h hkj hl hlk' (by simpa using hBjk) (by simpa using hBkj)
          rw [hnone] at hh
          obtain ⟨e, _, he, _⟩ := hS.rep.has h o' hh
          have hlo' := hnx j (by omega) 0 (by omega)
          have hhi' := hnx ops.length (Nat.le_refl _) (j + 1) (by omega)
          rw [hf h (by omega) (by omega)] at he
          simp at he
      have hTup : ∀ h, (T (up D i)).get h = if h ∈ q.log then q.t.get h else (T D).get h := by
        intro h
        have hlk := logSince_lookup q q.log h
        rw [← hlq] at hlk
        by_cases hh : h ∈ q.log
        · rw [if_pos hh] at hlk ⊢
          refine TDm_last hsm ops.length hi (by simp [up]) hlk fun j h1 h2 hDj => ?_
          cases hlj : (lg j).lookup h with
          | none => rfl
          | some v =>
            exfalso
            have hDj' : D j = true := by simpa [up, show j ≠ i by omega] using hDj
            have hB' : bitOf (maskOf pres j) i = false := by
              rw [Bool.eq_false_iff]; intro hB'
              have := hcl j h2 hDj' i hB'
              rw [hDi] at this; simp at this
            have hB : bitOf (maskOf pres i) j = false := by
              rw [Bool.eq_false_iff]; intro hB
              have := hBlt i hi j hB
              omega
            exact hapart i j h (by omega) (by rw [hlk]; simp) (by rw [hlj]; simp) hB' hB
        · rw [if_neg hh] at hlk ⊢
          refine TDm_congr hsm ops.length fun j hj hl => ?_
          simp only [up]
          by_cases e : j = i
          · subst e; exact absurd hlk hl
          · rw [if_neg e]
      have hx3 : ∀ h, h ∉ q.log → q.t.get h = Hi.get h := x3
      have hrepHi : Rep E' Hi w' := ⟨fun h o' hh => hI.rep.has h o' (hsub h o' hh), fun h h' o1 o2 e e' hh hh' => hI.rep.inj h h' o1 o2 e e' (hsub _ _ hh) (hsub _ _ hh')⟩
      have hsv : SvR E' ⟨F D, s.df, ⟨Hi, (S i).hp.nx, []⟩, s.n⟩ a' w' := ⟨hI.fr, hrepHi, hI.sz, hS.n, by rw [hI.df]; exact hS.df.mono hI.le⟩
      have hfree' : Free E' (S i).hp.nx q.nx := fun h g1 g2 => hI.free h ⟨i, hi, hDi, g1, by rw [hqn]; exact g2⟩
      refine op_step hC hcall hsv hq hfree' ⟨fr', hfr', fun E'' x w'' ho' hsv' => ?_⟩
      obtain ⟨r1, r2⟩ := out_frame (T' := T (up D i)) (L := q.log) hI.rep hI.frm ho' hsub hTup hx3 fun h hh => by
        have hlk := logSince_lookup q q.log h
        rw [← hlq, if_pos hh] at hlk
        exact hsm i _ (mem_of_lookup hlk)
      have hlo0 := hnx i (by omega) 0 (by omega)
      have hhi0 := hnx ops.length (Nat.le_refl _) (i + 1) (by omega)
      refine hK E'' _ _ ⟨Env.le_trans hI.le ho'.le, fun h hh => ?_, r1, r2, hfrup hsv'.fr (hset hfr'), hsv'.sz, by rw [put_df]; exact hI.df, fun h hh => ?_⟩
      · rw [ho'.off h (by simp only; omega), hI.off h hh]
      · obtain ⟨k, g1, g2, g3, g4⟩ := hh
        simp only [up] at g2
        by_cases e : k = i
        · rw [if_pos e] at g2; simp at g2
        · rw [if_neg e] at g2
          have hE' := hI.free h ⟨k, g1, g2, g3, g4⟩
          rw [ho'.off h ?_, hE']
          simp only
          rcases Nat.lt_or_ge k i with hlt | hge
          · have := hnx i (by omega) (k + 1) (by omega); omega
          · have := hnx k (by omega) (i + 1) (by omega); omega
  -- all orders
  have hall : ∀ (fuel : Nat) (listed : Array Bool) (l : List Nat), listed.size = ops.length → l.Nodup → (∀ j, j < ops.length → (listed.getD j false = false ↔ j ∈ l)) → l.length ≤ fuel → (∀ j ∈ l, j < ops.length) → Cl (fun j => listed.getD j false) →
      ∀ E' a' w', DInv E s a w d'.hp.nx (T fun j => listed.getD j false) (F fun j => listed.getD j false) (und fun j => listed.getD j false) E' a' w' → wpAny P .any ops.toArray (Post E s w .norm ⟨d'.fr, s.df, d'.hp, s.n⟩) fuel listed a' w' := by
    have hdone : ∀ (listed : Array Bool), (∀ j, j < ops.length → listed.getD j false = true) → ∀ E' a' w', DInv E s a w d'.hp.nx (T fun j => listed.getD j false) (F fun j => listed.getD j false) (und fun j => listed.getD j false) E' a' w' → Post E s w .norm ⟨d'.fr, s.df, d'.hp, s.n⟩ .normal a' w' := by
      intro listed hl E' a' w' hI
      have ht : ∀ h, (T fun j => listed.getD j false).get h = d'.hp.t.get h := fun h => by
        rw [← SN, hmem ops.length (Nat.le_refl _)]
        exact TDm_congr hsm ops.length fun j hj _ => hl j hj
      have hfr : ∀ t, (F fun j => listed.getD j false).get t = d'.fr.get t := fun t => by
        rw [← SN, hframe ops.length (Nat.le_refl _)]
        exact FT_congr hdsm ops.length fun j hj _ => hl j hj
      exact ⟨E', trivial, ⟨hI.le, hI.off, rep_congr ht hI.rep, frm_congr ht hI.frm⟩, ⟨⟨fun t v hv => hI.fr.look t v (by rw [hfr]; exact hv), hI.fr.gl⟩, rep_congr ht hI.rep, hI.sz, hS.n, by rw [hI.df]; exact hS.df.mono hI.le⟩⟩
    have hready : ∀ (listed : Array Bool), listed.size = ops.length → ∀ i, i ∈ Region.ready .any ops.toArray listed → ∃ o, ops[i]? = some o ∧ listed.getD i false = false ∧ ∀ e ∈ o.after, Region.binds .any e = true → listed.getD e.on false = true := by
      intro listed hsz i hi
      obtain ⟨g1, o, g2, g3⟩ := mem_ready.1 hi
      have : ops[i]? = some o := by simpa using g2
      refine ⟨o, this, ?_, g3⟩
      have hlt : i < listed.size := by rw [hsz]; exact hin this
      simp [hlt] at g1 ⊢
      exact g1
    have hsome : ∀ (listed : Array Bool), listed.size = ops.length → (∃ j, j < ops.length ∧ listed.getD j false = false) → Region.ready .any ops.toArray listed ≠ [] := by
      intro listed hsz ⟨j, hj, hjf⟩ hnil
      have hmin : ∀ j, j < ops.length → listed.getD j false = false → False := by
        intro j
        induction j using Nat.strongRecOn with
        | _ j ih =>
          intro hj hjf
          obtain ⟨o, ho⟩ := hget j hj
          have hb := (hed j o ho).1
          unfold edgeB at hb
          rw [allL_iff] at hb
          have : j ∈ Region.ready .any ops.toArray listed := by
            refine mem_ready.2 ⟨?_, o, by simpa using ho, fun e he hbe => ?_⟩
            · have hlt : j < listed.size := by rw [hsz]; exact hj
              simp [hlt] at hjf ⊢
              exact hjf
            · have hlt : e.on < j := by have := hb e (by simpa using he); rw [hbe] at this; simpa [Nat.blt_eq] using this
              cases hh : listed.getD e.on false with
              | true => rfl
              | false => exact (ih e.on hlt (by omega) hh).elim
          rw [hnil] at this
          simp at this
      exact hmin j hj hjf
    intro fuel
    induction fuel with
    | zero =>
      intro listed l hsz hnd hl hlen' hlb hcl E' a' w' hI
      have hl0 : l = [] := by simpa using hlen'
      subst hl0
      have hd : ∀ j, j < ops.length → listed.getD j false = true := fun j hj => by
        have := hl j hj
        simpa using this
      refine ⟨?_, hdone listed hd E' a' w' hI⟩
      apply List.eq_nil_iff_forall_not_mem.2
      intro i hi
      obtain ⟨o, ho, g, _⟩ := hready listed hsz i hi
      rw [hd i (hin ho)] at g
      simp at g
    | succ fuel ih =>
      intro listed l hsz hnd hl hlen' hlb hcl E' a' w' hI
      refine ⟨fun hnil => ?_, fun i hi => ?_⟩
      · refine hdone listed (fun j hj => ?_) E' a' w' hI
        cases hh : listed.getD j false with
        | true => rfl
        | false => exact absurd hnil (hsome listed hsz ⟨j, hj, hh⟩)
      · obtain ⟨o, ho, g1, g2⟩ := hready listed hsz i hi
        have hiN := hin ho
        have hBi : ∀ j, bitOf (maskOf pres i) j = true → listed.getD j false = true := fun j hB => by
          obtain ⟨e, he, hbe, hlt, hj⟩ := (hM i o ho j).1 hB
          have hdn := g2 e (by simpa using he) hbe
          rcases hj with rfl | hj
          · exact hdn
          · exact hcl e.on (by omega) hdn j hj
        refine hstep (fun j => listed.getD j false) i o hcl ho g1 hBi E' a' w' hI _ _ fun E'' a'' w'' hI' => ?_
        have hup : (up (fun j => listed.getD j false) i) = fun j => (listed.setIfInBounds i true).getD j false := by
          funext j
          simp only [up]
          by_cases e : j = i
          · subst e
            have hlt : j < listed.size := by rw [hsz]; exact hiN
            simp [hlt]
          · rw [if_neg e, getD_set_ne false (fun h => e h.symm)]
        rw [hup] at hI'
        refine ih (listed.setIfInBounds i true) (l.erase i) (by simp [hsz]) (hnd.erase i) (fun j hj => ?_) ?_ (fun j hj => hlb j (List.mem_of_mem_erase hj)) ?_ E'' a'' w'' hI'
        · have e0 := congrFun hup j
          simp only [up] at e0
          rw [← e0]
          by_cases e : j = i
          · subst e
            rw [if_pos rfl]
            simp only [Bool.true_eq_false, false_iff]
            exact fun h => (hnd.mem_erase_iff.1 h).1 rfl
          · rw [if_neg e, hnd.mem_erase_iff, hl j hj]
            simp [e]
        · have : i ∈ l := (hl i hiN).1 g1
          rw [List.length_erase_of_mem this]
          omega
        · rw [← hup]
          exact hclup _ i o hcl ho hBi
  refine wp_region_any hC.mo ?_
  have hsz0 : (ops.toArray).size = ops.length := by simp
  rw [hsz0]
  have hrep : ∀ j, (Array.replicate ops.length false).getD j false = false := fun j => by
    simp only [Array.getD_eq_getD_getElem?, Array.getElem?_replicate]
    split <;> rfl
  refine hall ops.length (Array.replicate ops.length false) (List.range ops.length) (by simp) List.nodup_range (fun j hj => ?_) (by simp) (fun j hj => by simpa using hj) (fun k hk hD => ?_) E a { w with drawn := w.drawn + 1 } ?_
  · rw [hrep]; simpa using hj
  · simp only [hrep] at hD; simp at hD
  · have e0 : (fun j => (Array.replicate ops.length false).getD j false) = fun _ => false := funext hrep
    rw [e0]
    have eT : T (fun _ => false) = s.hp.t := TDm_out hsm (m := 0) ops.length (by omega) (fun _ _ => rfl)
    have eF : ∀ t, (F fun _ => false).get t = s.fr.get t := fun t => FT_out hdsm (m := 0) ops.length (by omega) (fun _ _ => rfl) t
    refine ⟨Env.le_refl E, fun _ _ => rfl, by rw [eT]; exact hS.rep.same rfl, by rw [eT]; exact ⟨rfl, rfl, rfl, Nat.le_refl _, fun _ _ _ => rfl, fun h o e h1 h2 hr => .inl ⟨h, o, e, h1, h2, hr, rfl⟩⟩, ⟨fun t v hv => hS.fr.look t v (by rw [← eF]; exact hv), hS.fr.gl⟩, hS.sz, rfl, fun h hh => ?_⟩
    obtain ⟨i, g1, _, g3, g4⟩ := hh
    have hlo' := hnx i (by omega) 0 (by omega)
    have hhi' := hnx ops.length (Nat.le_refl _) (i + 1) (by omega)
    exact hf h (by omega) (by omega)
end
end Go.Proofs.YtaahfdjobpbpjaaGreatDoor
