/- Vsh: a block of SHA-256, reckoned fast; what the machine is told of sha's block. By this project. -/
import Derived.Test.YtaahfdjobpbpjaaGreatDoorSha2
import Derived.Test.YtaahfdjobpbpjaaGreatDoorVlaw
set_option linter.unusedVariables false
set_option linter.unusedSectionVars false
set_option linter.unusedSimpArgs false
set_option maxRecDepth 100000
namespace Go.Proofs.YtaahfdjobpbpjaaGreatDoor
open Go.RowKit Go.Extern.Stop

/-- A number, reckoned before it is used. -/
noncomputable def fN {α : Type} (x : Nat) (k : Nat → α) : α := Nat.rec (k 0) (fun m _ => k (Nat.succ m)) x
theorem fN_eq {α : Type} (x : Nat) (k : Nat → α) : fN x k = k x := by cases x <;> rfl
noncomputable def hdN (l : List Nat) : Nat := List.rec 0 (fun x _ _ => x) l
noncomputable def tlN (l : List Nat) : List Nat := List.rec [] (fun _ r _ => r) l
noncomputable def nthN (l : List Nat) : Nat → Nat := List.rec (fun _ => 0) (fun x _ ih i => Nat.rec x (fun m _ => ih m) i) l
theorem hdN_eq (l : List Nat) : hdN l = l.getD 0 0 := by cases l <;> rfl
theorem tlN_eq (l : List Nat) : tlN l = l.drop 1 := by cases l <;> rfl
theorem nthN_eq : ∀ (l : List Nat) (i : Nat), nthN l i = l.getD i 0
  | [], i => rfl
  | x :: r, 0 => rfl
  | x :: r, i + 1 => by
    show nthN r i = _
    rw [nthN_eq r i]; simp
/-- The first words, the youngest in front. -/
noncomputable def wInitF (n : Nat) : List Nat → List Nat → List Nat :=
  Nat.rec (fun _ acc => acc) (fun _ ih bs acc => fN (Nat.lor (Nat.lor (Nat.lor (shlW (nthN bs 0) 24) (shlW (nthN bs 1) 16)) (shlW (nthN bs 2) 8)) (nthN bs 3)) fun w => ih (tlN (tlN (tlN (tlN bs)))) (w :: acc)) n
noncomputable def wRestF (n : Nat) : List Nat → List Nat :=
  Nat.rec (fun acc => acc) (fun _ ih acc => fN (addW (s1N (nthN acc 1)) (addW (addW (nthN acc 6) (nthN acc 15)) (s0N (nthN acc 14)))) fun w => ih (w :: acc)) n
noncomputable def rdF (ks : List Nat) : List Nat → Nat → Nat → Nat → Nat → Nat → Nat → Nat → Nat → List Nat :=
  List.rec (fun _ a b c d e f g h => [a, b, c, d, e, f, g, h]) (fun k _ ih ws a b c d e f g h =>
    fN (addW (addW (addW (addW h (Nat.xor (Nat.xor (rotW e 6) (rotW e 11)) (rotW e 25))) (Nat.xor (Nat.land e f) (Nat.land (notW e) g))) k) (hdN ws)) fun t1 =>
    fN (addW t1 (addW (Nat.xor (Nat.xor (rotW a 2) (rotW a 13)) (rotW a 22)) (Nat.xor (Nat.xor (Nat.land a b) (Nat.land a c)) (Nat.land b c)))) fun x =>
    fN (addW d t1) fun y => ih (tlN ws) x a b c y e f g) ks
noncomputable def revN (l : List Nat) : List Nat → List Nat := List.rec (fun acc => acc) (fun x _ ih acc => ih (x :: acc)) l
theorem revN_eq : ∀ (l acc : List Nat), revN l acc = l.reverse ++ acc
  | [], acc => rfl
  | x :: r, acc => by show revN r (x :: acc) = _; rw [revN_eq r]; simp
noncomputable def addsF (v w : List Nat) : List Nat := fN (addW (nthN v 0) (nthN w 0)) fun a => fN (addW (nthN v 1) (nthN w 1)) fun b => fN (addW (nthN v 2) (nthN w 2)) fun c => fN (addW (nthN v 3) (nthN w 3)) fun d =>
  fN (addW (nthN v 4) (nthN w 4)) fun e => fN (addW (nthN v 5) (nthN w 5)) fun f => fN (addW (nthN v 6) (nthN w 6)) fun g => fN (addW (nthN v 7) (nthN w 7)) fun h => [a, b, c, d, e, f, g, h]
noncomputable def wAllF (bs : List Nat) : List Nat := revN (wRestF 48 (wInitF 16 bs [])) []
noncomputable def blkF8 (v : List Nat) (bs : List Nat) : List Nat := addsF v (rdF kW (wAllF bs) (nthN v 0) (nthN v 1) (nthN v 2) (nthN v 3) (nthN v 4) (nthN v 5) (nthN v 6) (nthN v 7))
section
variable (b : List UInt8) (bs : List Nat) (hbs : ∀ i, bs.getD i 0 = byteN b i)
include hbs
theorem wInitF_eq : ∀ (n t : Nat), t + n ≤ 16 → wInitF n (bs.drop (4 * t)) (wExp b t).reverse = (wExp b (t + n)).reverse
  | 0, t, _ => rfl
  | n + 1, t, h => by
    have ih := wInitF_eq n (t + 1) (by omega)
    show fN _ (fun w => wInitF n (tlN (tlN (tlN (tlN (bs.drop (4 * t)))))) (w :: (wExp b t).reverse)) = _
    rw [fN_eq]
    simp only [tlN_eq, nthN_eq, List.drop_drop, List.getD_eq_getElem?_getD, List.getElem?_drop]
    simp only [← List.getD_eq_getElem?_getD, hbs]
    rw [show 4 * t + (1 + (1 + (1 + 1))) = 4 * (t + 1) by omega]
    have e : (wExp b (t + 1)).reverse = w0N b t :: (wExp b t).reverse := by
      rw [wExp, wNext, if_pos (by omega)]; simp
    rw [e] at ih
    rw [show t + (n + 1) = t + 1 + n by omega, ← ih]
    rfl
omit hbs in
theorem rev_at (t i : Nat) (h : i < t) : (wExp b t).reverse.getD i 0 = wordN (wExp b t) (t - 1 - i) := by
  unfold wordN
  rw [List.getD_eq_getElem?_getD, List.getD_eq_getElem?_getD, List.getElem?_reverse (by rw [wExp_len]; exact h), wExp_len]
omit hbs in
theorem wRestF_eq : ∀ (n t : Nat), 16 ≤ t → wRestF n (wExp b t).reverse = (wExp b (t + n)).reverse
  | 0, t, _ => rfl
  | n + 1, t, h => by
    have ih := wRestF_eq n (t + 1) (by omega)
    show fN _ (fun w => wRestF n (w :: (wExp b t).reverse)) = _
    rw [fN_eq]
    simp only [nthN_eq]
    rw [rev_at b t 1 (by omega), rev_at b t 6 (by omega), rev_at b t 15 (by omega), rev_at b t 14 (by omega)]
    have e : (wExp b (t + 1)).reverse = addW (s1N (wordN (wExp b t) (t - 2))) (addW (addW (wordN (wExp b t) (t - 7)) (wordN (wExp b t) (t - 16))) (s0N (wordN (wExp b t) (t - 15)))) :: (wExp b t).reverse := by
      rw [wExp, wNext, if_neg (by omega)]; simp
    rw [e] at ih
    rw [show t + (n + 1) = t + 1 + n by omega, ← ih]
    congr 1
theorem wAllF_eq : wAllF bs = wExp b 64 := by
  unfold wAllF
  have h1 := wInitF_eq b bs hbs 16 0 (by omega)
  have h2 := wRestF_eq b 48 16 (by omega)
  simp only [Nat.mul_zero, List.drop_zero, Nat.zero_add] at h1
  rw [show (wExp b 0).reverse = [] from rfl] at h1
  rw [h1, h2, revN_eq]
  simp
omit hbs in
theorem drop_word {l : List Nat} {t : Nat} (h : t < l.length) : l.drop t = wordN l t :: l.drop (t + 1) := by
  rw [List.drop_eq_getElem_cons h]
  congr 1
  unfold wordN
  rw [List.getD_eq_getElem?_getD, List.getElem?_eq_getElem h]; rfl
omit hbs in
theorem rdF_step (k w : Nat) (ks ws v : List Nat) : rdF (k :: ks) (w :: ws) (wordN v 0) (wordN v 1) (wordN v 2) (wordN v 3) (wordN v 4) (wordN v 5) (wordN v 6) (wordN v 7) =
    rdF ks ws (wordN (rnd v k w) 0) (wordN (rnd v k w) 1) (wordN (rnd v k w) 2) (wordN (rnd v k w) 3) (wordN (rnd v k w) 4) (wordN (rnd v k w) 5) (wordN (rnd v k w) 6) (wordN (rnd v k w) 7) := by
  unfold rdF
  simp only [fN_eq]
  rfl
omit hbs in
theorem rdF_all (K W : List Nat) (hK : K.length = 64) (hW : W.length = 64) (R : Nat → List Nat) (hR : ∀ t, R (t + 1) = rnd (R t) (wordN K t) (wordN W t)) : ∀ (n t : Nat), t + n = 64 →
    rdF (K.drop t) (W.drop t) (wordN (R t) 0) (wordN (R t) 1) (wordN (R t) 2) (wordN (R t) 3) (wordN (R t) 4) (wordN (R t) 5) (wordN (R t) 6) (wordN (R t) 7) =
      [wordN (R 64) 0, wordN (R 64) 1, wordN (R 64) 2, wordN (R 64) 3, wordN (R 64) 4, wordN (R 64) 5, wordN (R 64) 6, wordN (R 64) 7]
  | 0, t, h => by
    obtain rfl : t = 64 := by omega
    rw [List.drop_of_length_le (by omega), List.drop_of_length_le (by omega)]
    rfl
  | n + 1, t, h => by
    have ih := rdF_all K W hK hW R hR n (t + 1) (by omega)
    rw [drop_word (by omega : t < K.length), drop_word (by omega : t < W.length), rdF_step, ← hR]
    exact ih
omit hbs in
theorem eight : ∀ (w : List Nat), w.length = 8 → [wordN w 0, wordN w 1, wordN w 2, wordN w 3, wordN w 4, wordN w 5, wordN w 6, wordN w 7] = w
  | [a, b, c, d, e, f, g, h], _ => rfl
omit hbs in
theorem addsF_eq : ∀ (v w : List Nat), v.length = 8 → w.length = 8 → addsF v w = List.zipWith addW v w
  | [a, b, c, d, e, f, g, h], [a', b', c', d', e', f', g', h'], _, _ => by
    unfold addsF
    simp only [fN_eq]
    rfl
theorem blkF8_eq {v : List Nat} (hv : v.length = 8) : blkF8 v bs = blk v b := by
  have h1 := wAllF_eq b bs hbs
  have h2 := rdF_all kW (wExp b 64) (by decide) (wExp_len b 64) (rds v b) (fun t => by rw [rds]) 64 0 (by omega)
  rw [eight _ (rds_len hv b 64), List.drop_zero, List.drop_zero, rds] at h2
  unfold blkF8 blk
  simp only [nthN_eq, h1]
  unfold wordN at h2
  rw [h2, addsF_eq v _ hv (rds_len hv b 64)]
end
end Go.Proofs.YtaahfdjobpbpjaaGreatDoor
