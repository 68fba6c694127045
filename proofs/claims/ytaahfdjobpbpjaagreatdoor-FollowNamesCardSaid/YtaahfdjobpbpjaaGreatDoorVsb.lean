/- Vsb: what the machine is told of sha's block, and that it is so. By this project. -/
import Derived.Test.YtaahfdjobpbpjaaGreatDoorVsh
import Derived.Test.YtaahfdjobpbpjaaGreatDoorVmu
set_option linter.unusedVariables false
set_option linter.unusedSectionVars false
set_option linter.unusedSimpArgs false
set_option maxRecDepth 100000
namespace Go.Proofs.YtaahfdjobpbpjaaGreatDoor
open Go.RowKit Go.Extern.Stop

def asW : V → Option Nat
  | .i .u32 (.ofNat n) => match Nat.blt n 4294967296 with
    | true => some n
    | false => none
  | _ => none
def asB : V → Option Nat
  | .i .u8 (.ofNat n) => match Nat.blt n 256 with
    | true => some n
    | false => none
  | _ => none
def wV (n : Nat) : V := .i .u32 (.ofNat (Nat.mod n 4294967296))
theorem asW_ren {v : V} {n : Nat} (h : asW v = some n) (E : Env) : ren E v = some (wcell n) := by
  unfold asW at h
  split at h
  · rename_i m
    split at h
    · rename_i hb
      simp only [Option.some.injEq] at h
      subst h
      have hb : m < 4294967296 := by simpa [Nat.blt_eq] using hb
      rw [wcell_eq hb]
      rfl
    · simp at h
  · simp at h
theorem asB_ren {v : V} {n : Nat} (h : asB v = some n) (E : Env) : ren E v = some (cell (UInt8.ofNat n)) ∧ (UInt8.ofNat n).toNat = n := by
  unfold asB at h
  split at h
  · rename_i m
    split at h
    · rename_i hb
      simp only [Option.some.injEq] at h
      subst h
      have hb : m < 256 := by simpa [Nat.blt_eq] using hb
      have e : (UInt8.ofNat m).toNat = m := by simp; omega
      refine ⟨?_, e⟩
      show some (Value.int .u8 (m : Int)) = some (Value.int .u8 ((UInt8.ofNat m).toNat : Int))
      rw [e]
    · simp at h
  · simp at h
theorem wV_ren (n : Nat) (E : Env) : ren E (wV n) = some (wcell n) := by
  unfold wcell
  rfl
theorem renL_splitA {E : Env} : ∀ {a b : List V} {x : List Value}, renL E (a ++ b) = some x → ∃ p q, renL E a = some p ∧ renL E b = some q ∧ x = p ++ q
  | [], b, x, h => ⟨[], x, rfl, h, rfl⟩
  | v :: r, b, x, h => by
    obtain ⟨y, t, h1, h2, rfl⟩ := renL_cons h
    obtain ⟨p, q, h3, h4, rfl⟩ := renL_splitA h2
    exact ⟨y :: p, q, by simp [renL, h1, h3], h4, rfl⟩
theorem renL_joinA {E : Env} : ∀ {a b : List V} {p q : List Value}, renL E a = some p → renL E b = some q → renL E (a ++ b) = some (p ++ q)
  | [], b, p, q, h1, h2 => by simp [renL] at h1; subst h1; simpa using h2
  | v :: r, b, p, q, h1, h2 => by
    obtain ⟨y, t, h3, h4, rfl⟩ := renL_cons h1
    have := renL_joinA h4 h2
    simp [renL, h3, this]
theorem mapW_ren {E : Env} : ∀ {l : List V} {ws : List Nat}, mapO asW l = some ws → renL E l = some (ws.map wcell)
  | [], ws, h => by simp [mapO_nil] at h; subst h; rfl
  | v :: r, ws, h => by
    rw [mapO_cons] at h
    cases hv : asW v with
    | none => rw [hv] at h; simp at h
    | some y =>
      rw [hv] at h
      cases hl : mapO asW r with
      | none => rw [hl] at h; simp at h
      | some ys =>
        rw [hl] at h
        simp at h
        subst h
        simp [renL, asW_ren hv E, mapW_ren hl]
theorem mapB_ren {E : Env} : ∀ {l : List V} {bs : List Nat}, mapO asB l = some bs → renL E l = some ((bs.map UInt8.ofNat).map cell) ∧ ∀ i, bs.getD i 0 = byteN (bs.map UInt8.ofNat) i
  | [], bs, h => by simp [mapO_nil] at h; subst h; exact ⟨rfl, fun i => by simp [byteN]⟩
  | v :: r, bs, h => by
    rw [mapO_cons] at h
    cases hv : asB v with
    | none => rw [hv] at h; simp at h
    | some y =>
      rw [hv] at h
      cases hl : mapO asB r with
      | none => rw [hl] at h; simp at h
      | some ys =>
        rw [hl] at h
        simp at h
        subst h
        obtain ⟨h1, h2⟩ := asB_ren hv E
        obtain ⟨h3, h4⟩ := mapB_ren hl (E := E)
        refine ⟨by simp [renL, h1]; simpa using h3, fun i => ?_⟩
        cases i with
        | zero => simp [byteN]; exact h2.symm
        | succ i => have := h4 i; simp [byteN] at this ⊢; exact this
theorem mapWV_ren {E : Env} : ∀ (ws : List Nat), renL E (ws.map wV) = some (ws.map wcell)
  | [] => rfl
  | w :: r => by simp [renL, wV_ren, mapWV_ren r]
noncomputable def eqN (a : List Nat) : List Nat → Bool := List.rec (fun b => b.isEmpty) (fun x _ ih b => List.rec false (fun y s _ => Bool.rec false (ih s) (Nat.beq x y)) b) a
theorem eqN_eq : ∀ {a b : List Nat}, eqN a b = true → a = b
  | [], [], _ => rfl
  | [], y :: s, h => by simp [eqN] at h
  | x :: r, [], h => by simp [eqN] at h
  | x :: r, y :: s, h => by
    have e : eqN (x :: r) (y :: s) = Bool.rec false (eqN r s) (Nat.beq x y) := rfl
    rw [e] at h
    cases hb : Nat.beq x y with
    | false => rw [hb] at h; simp at h
    | true =>
      rw [hb] at h
      rw [Nat.eq_of_beq_eq_true hb, eqN_eq h]
/-- The state's words, the block, the rest. -/
noncomputable def blkParse (cs : List V) : Option (List Nat × List Nat) := (mapO asW (takeF cs 8)).bind fun ws => (mapO asB (takeF (dropF cs 8) 64)).bind fun bs => match Nat.beq ws.length 8 && Nat.beq bs.length 64 with
  | true => some (ws, bs)
  | false => none
noncomputable def isK (hp : Hp) (gk : Nat) : Bool := match hp.t.get gk with
  | some (.cells kcs _ none false) => match mapO asW kcs with
    | some ks => eqN ks kW
    | none => false
  | _ => false
noncomputable def shaExt (nb gk : Nat) : CallF := fun f args hp => match Nat.beq f nb, args with
  | true, [.p (some (h, o)), .p (some (h2, o2))] => match Nat.beq o 0 && (Nat.beq o2 8 && (Nat.beq h2 h && (Nat.blt gk gMax && isK hp gk))) with
    | true => match hp.getW h with
      | some (.cells cs T none false) => (blkParse cs).bind fun q => some (.v (.tup []), hp.put h (some (.cells (appF ((blkF8 q.1 q.2).map wV) (dropF cs 8)) T none false)))
      | _ => none
    | false => none
  | _, _ => none
/-- All blocks of a world, told. -/
def blocksL (w : World) : HL := w.heap.toList.zipIdx.map fun x => (some x.2, x.1)
theorem blocksL_at (w : World) (i : Nat) : (blocksL w)[i]? = (w.heap[i]?).map fun o => (some i, o) := by
  unfold blocksL
  rw [List.getElem?_map, List.getElem?_zipIdx]
  simp
  cases w.heap[i]? <;> simp
theorem blocksL_st (w : World) : St { w with heap := #[] } w (blocksL w) := by
  refine ⟨⟨rfl, rfl, rfl, Nat.zero_le _, fun k hk => by simp at hk⟩, fun i b o hi => ?_, fun i j b o o' hi hj => ?_⟩
  · rw [blocksL_at] at hi
    cases hw : w.heap[i]? with
    | none => rw [hw] at hi; simp at hi
    | some x =>
      rw [hw] at hi
      simp at hi
      obtain ⟨rfl, rfl⟩ := hi
      exact ⟨hw, Nat.zero_le _⟩
  · rw [blocksL_at] at hi hj
    cases hw : w.heap[i]? with
    | none => rw [hw] at hi; simp at hi
    | some x =>
      cases hw2 : w.heap[j]? with
      | none => rw [hw2] at hj; simp at hj
      | some y =>
        rw [hw] at hi
        rw [hw2] at hj
        simp at hi hj
        omega
set_option maxHeartbeats 1000000 in
theorem shaExt_ok : CallOk Tryz.prog (shaExt 171 7) := by
  intro f args hp r hp' h
  unfold shaExt at h
  split at h
  · rename_i h0 o h2 o2 hf
    have hf := Nat.eq_of_beq_eq_true hf
    subst hf
    split at h
    · rename_i hb
      simp only [Bool.and_eq_true] at hb
      obtain ⟨b1, b2, b3, b4, b5⟩ := hb
      obtain rfl := Nat.eq_of_beq_eq_true b1
      obtain rfl := Nat.eq_of_beq_eq_true b2
      obtain rfl := Nat.eq_of_beq_eq_true b3
      split at h
      · rename_i cs T hg
        obtain ⟨hg, hro⟩ := getW_some hg
        simp only [Option.bind_eq_some_iff, Option.some.injEq, Prod.mk.injEq] at h
        obtain ⟨⟨ws1, bs1⟩, hq, rfl, rfl⟩ := h
        refine ⟨ext_put _ _ _, by kernel_rfl, fun E w vargs hR hG hA hF => ?_⟩
        unfold blkParse at hq
        simp only [Option.bind_eq_some_iff] at hq
        obtain ⟨ws, hws, bs, hbs, hq⟩ := hq
        split at hq
        · rename_i hl
          simp only [Bool.and_eq_true] at hl
          have l1 := Nat.eq_of_beq_eq_true hl.1
          have l2 := Nat.eq_of_beq_eq_true hl.2
          simp only [Option.some.injEq, Prod.mk.injEq] at hq
          obtain ⟨rfl, rfl⟩ := hq
          simp only [takeF_eq, dropF_eq, appF_eq] at *
          obtain ⟨b, ex, pre, l, sp, fz, g1, g2, g3, g4, g5, g6, g7, g8⟩ := rep_cells hR hg
          obtain ⟨rfl, rfl⟩ := g5 rfl
          obtain rfl := g7 rfl
          rw [← List.take_append_drop 8 cs, ← List.take_append_drop 64 (cs.drop 8)] at g3
          obtain ⟨p, q, q1, q2, rfl⟩ := renL_splitA g3
          obtain ⟨p2, tl, q3, q4, rfl⟩ := renL_splitA q2
          rw [mapW_ren hws] at q1
          obtain rfl := Option.some.inj q1
          obtain ⟨hB1, hB2⟩ := mapB_ren hbs (E := E)
          rw [hB1] at q3
          obtain rfl := Option.some.inj q3
          have hargs : vargs = [.pointer (some ⟨b, pre.length, none⟩), .pointer (some ⟨b, pre.length + 8, none⟩)] := by
            obtain ⟨x, t, h1, h2, rfl⟩ := renL_cons hA
            obtain ⟨x2, t2, h3, h4, rfl⟩ := renL_cons h2
            simp [ren, g1] at h1 h3
            simp [renL] at h4
            rw [← h1, ← h3, ← h4]
          subst hargs
          have hk : ∃ E', w.heap[7]? = some (.cells (kW.map wcell).toArray E' (0, 0)) := by
            unfold isK at b5
            split at b5
            · rename_i kcs Tk hgk
              split at b5
              · rename_i ks hks
                obtain rfl := eqN_eq b5
                obtain ⟨bk, exk, prek, lk, spk, fzk, k1, k2, k3, k4, k5, k6, k7, k8⟩ := rep_cells hR hgk
                rw [hG _ (by simpa [Nat.blt_eq] using b4)] at k1
                simp only [Option.some.injEq, Prod.mk.injEq] at k1
                obtain ⟨rfl, e2, rfl⟩ := k1
                have : prek = [] := List.length_eq_zero_iff.1 e2.symm
                subst this
                obtain ⟨rfl, _⟩ := k5 rfl
                obtain rfl := k7 rfl
                rw [mapW_ren hks] at k3
                obtain rfl := Option.some.inj k3
                exact ⟨Tk, by simpa using k2⟩
              · simp at b5
            · simp at b5
          obtain ⟨Ek, hk⟩ := hk
          have g2' : w.heap[b]? = some (.cells (pre ++ (ws.map wcell ++ (bs.map UInt8.ofNat).map cell ++ tl)).toArray T (0, 0)) := by
            rw [g2]; simp
          have hL : (blocksL w)[b]? = some (some b, .cells (pre ++ (ws.map wcell ++ (bs.map UInt8.ofNat).map cell ++ tl)).toArray T (0, 0)) := by
            rw [blocksL_at, g2']; rfl
          have hblt := lt_of_heap g2
          have hlen : (blocksL w).length = w.heap.size := by simp [blocksL]
          have hc := block_cls { w with heap := #[] } (blocksL w) b b pre.length pre rfl ws (bs.map UInt8.ofNat) tl T hL l1 (by simpa using l2) (fun N w2 hs j v hv => by
            have := (hs.has (N.length + 7) 7 (.cells (kW.map wcell).toArray Ek (0, 0)) (by rw [List.getElem?_append_right (by omega)]; simp [blocksL_at, hk])).1
            simp only [World.cell?, this]
            simpa using hv)
          refine (hc w (blocksL_st w)).mono ?_
          rintro e w' ⟨v, N, rfl, hs, rfl, rfl⟩
          have hat : ∀ k, k < w.heap.size → k ≠ b → w'.heap[k]? = w.heap[k]? := fun k hk hne => by
            have h1 : ((blocksL w).set b (some b, .cells (pre ++ ((blk ws (bs.map UInt8.ofNat)).map wcell ++ (bs.map UInt8.ofNat).map cell ++ tl)).toArray T (0, 0)))[k]? = some (some k, w.heap[k]'hk) := by
              rw [List.getElem?_set_ne (fun e => hne e.symm), blocksL_at, Array.getElem?_eq_getElem hk]; rfl
            rw [(hs.has k k _ h1).1, Array.getElem?_eq_getElem hk]
          have hatb : w'.heap[b]? = some (.cells (pre ++ ((blk ws (bs.map UInt8.ofNat)).map wcell ++ (bs.map UInt8.ofNat).map cell ++ tl)).toArray T (0, 0)) :=
            (hs.has b b _ (by rw [List.getElem?_set_self (by omega)])).1
          have hsz : w.heap.size ≤ w'.heap.size := by
            rcases Nat.eq_zero_or_pos w.heap.size with h | h
            · omega
            · by_cases e : w.heap.size - 1 = b
              · have := lt_of_heap hatb; omega
              · have h1 := hat (w.heap.size - 1) (by omega) e
                have h2 : w.heap[w.heap.size - 1]? = some (w.heap[w.heap.size - 1]'(by omega)) := Array.getElem?_eq_getElem (by omega)
                rw [h2] at h1
                have := lt_of_heap h1; omega
          refine ⟨E, out_putG hro hR hg g1 ?_ hatb (fun k hne hk => hat k hk hne) hsz hs.below.os hs.below.tape hs.below.output, .tuple #[], rfl, rfl⟩
          have hr : renL E ((blkF8 ws bs).map wV ++ cs.drop 8) = some ((blk ws (bs.map UInt8.ofNat)).map wcell ++ (bs.map UInt8.ofNat).map cell ++ tl) := by
            rw [blkF8_eq _ _ hB2 l1, List.append_assoc]
            rw [List.take_append_drop] at q2
            exact renL_joinA (mapWV_ren _) q2
          refine ⟨pre, _, [], (0, 0), hr, ?_, rfl, by simp, fun _ => ⟨rfl, rfl⟩, fun s hs => by simp at hs, fun _ => rfl, .inl rfl⟩
          simp only [List.all_append, Bool.and_eq_true] at g4 ⊢
          exact ⟨⟨wcells_one _, g4.2.1⟩, g4.2.2⟩
        · simp at hq
      · simp at h
    · simp at h
  · simp at h
end Go.Proofs.YtaahfdjobpbpjaaGreatDoor
