/- Vmu: a lock taken and given back, as the machine is told of it. By this project. -/
import Derived.Test.YtaahfdjobpbpjaaGreatDoorVu
import Derived.Conc.MuLone
set_option linter.unusedVariables false
set_option linter.unusedSectionVars false
set_option linter.unusedSimpArgs false
namespace Go.Proofs.YtaahfdjobpbpjaaGreatDoor
open Go.RowKit Go.Extern.Stop Go.Conc.Locks

/-- The lock's word turns from one number into another. -/
noncomputable def muTurn (hp : Hp) (h o : Nat) (p q : Nat) : Option Hp := match cellsAt hp h with
  | some cs => match getL cs o with
    | some (.i .i32 n) => match intEq n (.ofNat p) with
      | true => storeV hp h o [.i .i32 (.ofNat q)]
      | false => none
    | _ => none
  | none => none
noncomputable def muExt (nl : Nat) : CallF := fun f args hp => match Nat.beq f nl, args with
  | true, [.p (some (h, o))] => (muTurn hp h o 0 1).bind fun hp' => some (.v (.tup []), hp')
  | _, _ => none
noncomputable def muExtd (nu : Nat) : DefF := fun f args u hp => match Nat.beq f nu, args with
  | true, [.p (some (h, o))] => (muTurn hp h o 1 0).bind fun hp' => some (.v (.tup []), u, hp')
  | _, _ => none
theorem muTurn_ok {E : Env} {hp hp' : Hp} {w : World} {h o p q b k ex : Nat} (hm : muTurn hp h o p q = some hp') (hR : Rep E hp.t w) (he : E h = some (b, k, ex)) :
    hp.nx = hp'.nx ∧ w.cell? ⟨b, k + o, none⟩ = some (.int .i32 p) ∧ w.frozen? ⟨b, k + o, none⟩ = false ∧ Out E hp w E hp' (w.setCell ⟨b, k + o, none⟩ (.int .i32 q)) := by
  unfold muTurn at hm
  split at hm
  · rename_i cs hcs
    split at hm
    · rename_i n hn
      split at hm
      · rename_i hi
        have hi : n = Int.ofNat p := by
          cases n <;> simp [intEq] at hi
          exact congrArg Int.ofNat hi
        subst hi
        obtain ⟨g1, g2, g3, g4⟩ := storeV_ok (L := [.int .i32 q]) hR hm rfl rfl he
        rw [getL_eq] at hn
        have hl := (List.getElem?_eq_some_iff.1 hn).1
        have hc : cutL cs o 1 = some [.i .i32 (Int.ofNat p)] := by
          rw [cutL_mk (by omega)]
          simp only [Option.some.injEq]
          rw [List.drop_eq_getElem_cons hl, List.take_succ_cons, List.take_zero]
          rw [List.getElem?_eq_getElem hl] at hn
          rw [Option.some.inj hn]
        obtain ⟨b', k', ex', L, q1, q2, q3, q4, q5⟩ := cellsAt_ok hR hcs hc
        rw [he] at q1
        simp only [Option.some.injEq, Prod.mk.injEq] at q1
        obtain ⟨rfl, rfl, rfl⟩ := q1
        obtain ⟨x, t', h1, h2, rfl⟩ := renL_cons q2
        simp [ren] at h1
        subst h1
        refine ⟨g1, ?_, ?_, g4⟩
        · have := q5 0 _ (by simp; rfl)
          simpa using this
        · have := g3 0 (by simp)
          simpa using this
      · simp at hm
    · simp at hm
  · simp at hm
theorem muTurn_ext {hp hp' : Hp} {h o p q : Nat} (hm : muTurn hp h o p q = some hp') : Ext hp hp' := by
  unfold muTurn at hm
  split at hm
  · split at hm
    · split at hm
      · exact storeV_nx hm
      · simp at hm
    · simp at hm
  · simp at hm
theorem muExt_ok {P : Program} {L : MuLink} (H : MuLib P L) (hc : callT P L.lock = true) : CallOk P (muExt L.lock) := by
  intro f args hp r hp' h
  unfold muExt at h
  split at h
  · rename_i hx ho hf
    have hf := Nat.eq_of_beq_eq_true hf
    subst hf
    simp only [Option.bind_eq_some_iff, Option.some.injEq, Prod.mk.injEq] at h
    obtain ⟨hp1, hm, rfl, rfl⟩ := h
    refine ⟨muTurn_ext hm, hc, fun E w vargs hR hG hA hF => ?_⟩
    obtain ⟨x, t', h1, h2, rfl⟩ := renL_cons hA
    obtain rfl : t' = [] := by simpa [renL] using h2.symm
    simp only [ren, Option.map_eq_some_iff] at h1
    obtain ⟨⟨b, k, ex⟩, he, rfl⟩ := h1
    obtain ⟨g1, g2, g3, g4⟩ := muTurn_ok hm hR he
    refine (Go.MuLone.lock_free H ⟨b, k + _, none⟩ w g2 g3).mono ?_
    rintro e w' ⟨rfl, rfl⟩
    exact ⟨E, g4, .tuple #[], rfl, rfl⟩
  · simp at h
theorem muExtd_ok {P : Program} {L : MuLink} (H : MuLib P L) (hc : callT P L.unlock = true) : DefOk P (muExtd L.unlock) := by
  intro f args u hp r u' hp' h
  unfold muExtd at h
  split at h
  · rename_i hx ho hf
    have hf := Nat.eq_of_beq_eq_true hf
    subst hf
    simp only [Option.bind_eq_some_iff, Option.some.injEq, Prod.mk.injEq] at h
    obtain ⟨hp1, hm, rfl, rfl, rfl⟩ := h
    refine ⟨muTurn_ext hm, hc, fun E w vargs m hR hG hA hM hF => ?_⟩
    obtain ⟨x, t', h1, h2, rfl⟩ := renL_cons hA
    obtain rfl : t' = [] := by simpa [renL] using h2.symm
    simp only [ren, Option.map_eq_some_iff] at h1
    obtain ⟨⟨b, k, ex⟩, he, rfl⟩ := h1
    obtain ⟨g1, g2, g3, g4⟩ := muTurn_ok hm hR he
    refine (Go.MuLone.unlock_deferred H ⟨b, k + _, none⟩ m w g2 g3).mono ?_
    rintro e u' w' ⟨rfl, rfl, rfl⟩
    exact ⟨E, g4, hM, .tuple #[], rfl, rfl⟩
  · simp at h
/-- One summary behind another. -/
def orExt (a b : CallF) : CallF := fun f args hp => match a f args hp with
  | some q => some q
  | none => b f args hp
theorem orExt_ok {P : Program} {a b : CallF} (ha : CallOk P a) (hb : CallOk P b) : CallOk P (orExt a b) := by
  intro f args hp r hp' h
  unfold orExt at h
  split at h
  · rename_i q hq
    simp only [Option.some.injEq] at h
    subst h
    exact ha _ _ _ _ _ hq
  · exact hb _ _ _ _ _ h
end Go.Proofs.YtaahfdjobpbpjaaGreatDoor
