/- The plain laws of frames. By this project. -/
import Derived.Test.YtfanghiakbddcaaFixed
set_option linter.unusedVariables false
set_option linter.unusedSimpArgs false
set_option maxRecDepth 100000
namespace Go.Proofs.Ytfanghiakbddcaa
open Go.RowKit Go.Extern.Stop

theorem u8_of {x : UInt8} {n : Nat} (h : x.toNat = n) : UInt8.ofNat n = x := by subst h; simp
theorem of_toNat {n : Nat} (h : n < 256) : (UInt8.ofNat n).toNat = n := by simp [UInt8.toNat_ofNat', Nat.mod_eq_of_lt (show n < 2 ^ 8 by omega)]
theorem wrapB_eq {q : List UInt8} (h : q.length ≤ 16384) : wrapB q = hdrB q.length ++ q := by rw [wrapB, if_neg (by omega)]
theorem wrapB_len {q : List UInt8} (h : q.length ≤ 16384) : (wrapB q).length = 7 + q.length := by rw [wrapB_eq h]; simp [hdrB]; omega
theorem hdr_at (n : Nat) (r : List UInt8) : byteB (hdrB n ++ r) 0 = 202 ∧ byteB (hdrB n ++ r) 1 = n / 65536 % 256 ∧ byteB (hdrB n ++ r) 2 = n / 256 % 256 ∧ byteB (hdrB n ++ r) 3 = n % 256 ∧
    byteB (hdrB n ++ r) 4 = 255 - n / 65536 % 256 ∧ byteB (hdrB n ++ r) 5 = 255 - n / 256 % 256 ∧ byteB (hdrB n ++ r) 6 = 255 - n % 256 := by
  refine ⟨rfl, ?_, ?_, ?_, ?_, ?_, ?_⟩ <;> exact of_toNat (by omega)
theorem hdr_ok (n : Nat) (r : List UInt8) (h : n ≤ 16384) : okK (hdrB n ++ r) 3 ∧ numK (hdrB n ++ r) 3 = n := by
  obtain ⟨h0, h1, h2, h3, h4, h5, h6⟩ := hdr_at n r
  refine ⟨fun j hj => ?_, ?_⟩
  · rcases (by omega : j = 0 ∨ j = 1 ∨ j = 2) with rfl | rfl | rfl
    · rw [h1, h4]; omega
    · rw [h2, h5]; omega
    · rw [h3, h6]; omega
  · simp only [numK, h1, h2, h3]; omega
theorem endB_wrap (q r : List UInt8) (h : q.length ≤ 16384) : endB (wrapB q ++ r) = (7 + q.length, 0) := by
  rw [wrapB_eq h, List.append_assoc]
  obtain ⟨g1, g2⟩ := hdr_ok q.length (q ++ r) h
  have hl : (hdrB q.length ++ (q ++ r)).length = 7 + q.length + r.length := by simp [hdrB]; omega
  rw [endB, if_neg (by omega), if_neg (fun h => h (hdr_at q.length (q ++ r)).1), if_neg (by omega), if_neg (fun h => h g1), g2, if_neg (by omega), if_neg (by omega)]
theorem endB_cut (q : List UInt8) (k : Nat) (h : q.length ≤ 16384) (h0 : 0 < k) (hk : k < 7 + q.length) : endB ((wrapB q).take k) = (0, 91) := by
  have hl : ((wrapB q).take k).length = k := by rw [List.length_take, wrapB_len h]; omega
  have e0 : byteB ((wrapB q).take k) 0 = 202 := by
    rw [wrapB_eq h]
    obtain ⟨k, rfl⟩ : ∃ j, k = j + 1 := ⟨k - 1, by omega⟩
    rfl
  by_cases h7 : k < 7
  · rw [endB, if_neg (by omega), if_neg (fun h => h e0), if_pos (by omega)]
  · have e : (wrapB q).take k = hdrB q.length ++ q.take (k - 7) := by
      rw [wrapB_eq h, List.take_append, List.take_of_length_le (by simp [hdrB]; omega)]; rfl
    obtain ⟨g1, g2⟩ := hdr_ok q.length (q.take (k - 7)) h
    rw [← e] at g1 g2
    rw [endB, if_neg (by omega), if_neg (fun h => h e0), if_neg (by omega), if_neg (fun h => h g1), g2, if_neg (by omega), if_pos (by omega)]
theorem endB_inv {b : List UInt8} {e : Nat} (h : endB b = (e, 0)) : byteB b 0 = 202 ∧ okK b 3 ∧ numK b 3 ≤ 16384 ∧ e = 7 + numK b 3 ∧ e ≤ b.length := by
  revert h
  unfold endB
  split
  · simp
  · split
    · simp
    · split
      · simp
      · split
        · simp
        · split
          · simp
          · split
            · simp
            · intro h
              rename_i h1 h2 h3 h4 h5 h6
              simp only [Prod.mk.injEq] at h
              exact ⟨Decidable.not_not.1 h2, Decidable.not_not.1 h4, by omega, h.1.symm, by omega⟩
theorem list7 {b : List UInt8} (h : 7 ≤ b.length) : b = [b.getD 0 0, b.getD 1 0, b.getD 2 0, b.getD 3 0, b.getD 4 0, b.getD 5 0, b.getD 6 0] ++ b.drop 7 := by
  match b, h with
  | x0 :: x1 :: x2 :: x3 :: x4 :: x5 :: x6 :: r, _ => rfl
theorem frame_back {b : List UInt8} {e : Nat} (h : endB b = (e, 0)) : wrapB ((b.drop 7).take (e - 7)) = b.take e ∧ ((b.drop 7).take (e - 7)).length = e - 7 ∧ e - 7 ≤ 16384 := by
  obtain ⟨h0, h1, h2, h3, h4⟩ := endB_inv h
  have hl : ((b.drop 7).take (e - 7)).length = e - 7 := by simp; omega
  refine ⟨?_, hl, by omega⟩
  rw [wrapB_eq (by omega), hl, show e - 7 = numK b 3 by omega]
  have t : b.take e = [b.getD 0 0, b.getD 1 0, b.getD 2 0, b.getD 3 0, b.getD 4 0, b.getD 5 0, b.getD 6 0] ++ (b.drop 7).take (numK b 3) := by
    conv => lhs; rw [list7 (b := b) (by omega)]
    rw [List.take_append, List.take_of_length_le (by simp; omega)]
    simp only [List.length_cons, List.length_nil]
    rw [show e - (0 + 1 + 1 + 1 + 1 + 1 + 1 + 1) = numK b 3 by omega]
  rw [t]
  congr 1
  have k0 := h1 0 (by omega); have k1 := h1 1 (by omega); have k2 := h1 2 (by omega)
  have b1 := byteB_lt b 1; have b2 := byteB_lt b 2; have b3 := byteB_lt b 3
  have hn : numK b 3 = byteB b 1 * 65536 + byteB b 2 * 256 + byteB b 3 := by simp [numK]; omega
  simp only [byteB, Nat.zero_add, Nat.reduceAdd] at *
  simp only [hdrB, hn]
  rw [show (202 : UInt8) = b.getD 0 0 from (UInt8.toNat_inj.1 h0).symm, u8_of (x := b.getD 1 0) (by omega), u8_of (x := b.getD 2 0) (by omega), u8_of (x := b.getD 3 0) (by omega), u8_of (x := b.getD 4 0) (by omega), u8_of (x := b.getD 5 0) (by omega), u8_of (x := b.getD 6 0) (by omega)]

/-- Frames one behind another. -/
def encB (ps : List (List UInt8)) : List UInt8 := (ps.map wrapB).flatten
theorem encB_snoc (ps : List (List UInt8)) (q : List UInt8) : encB (ps ++ [q]) = encB ps ++ wrapB q := by simp [encB]
theorem encB_cons (ps : List (List UInt8)) (q : List UInt8) : encB (q :: ps) = wrapB q ++ encB ps := by simp [encB]
def shortL (ps : List (List UInt8)) : Prop := ∀ p ∈ ps, p.length ≤ 16384
/-- Where they lie, the first at p. -/
def placesB : Nat → List (List UInt8) → List (Nat × Nat)
  | _, [] => []
  | p, q :: r => (p, p + (7 + q.length)) :: placesB (p + (7 + q.length)) r
theorem placesB_len : ∀ (p : Nat) (ps : List (List UInt8)), (placesB p ps).length = ps.length
  | _, [] => rfl
  | p, q :: r => by simp [placesB, placesB_len _ r]
theorem scan_enc (b : List UInt8) : ∀ (ps : List (List UInt8)) (p : Nat) (r : List UInt8), shortL ps → b.drop p = encB ps ++ r →
    scanB b p = (placesB p ps ++ (scanB b (p + (encB ps).length)).1, (scanB b (p + (encB ps).length)).2) ∧ (placesB p ps).map (payB b) = ps ∧ b.drop (p + (encB ps).length) = r
  | [], p, r, _, h => by simp [placesB, encB] at h ⊢; exact h
  | q :: ps, p, r, hs, h => by
    have hq : q.length ≤ 16384 := hs q (by simp)
    rw [encB_cons, List.append_assoc] at h
    have he : endB (b.drop p) = (7 + q.length, 0) := by rw [h]; exact endB_wrap q _ hq
    have hlw := wrapB_len hq
    have hlt : p < b.length := by
      have := congrArg List.length h
      simp only [List.length_drop, List.length_append, hlw] at this
      omega
    have hd : b.drop (p + (7 + q.length)) = encB ps ++ r := by
      rw [← List.drop_drop, h, List.drop_append, List.drop_of_length_le (by omega), hlw]; simp
    obtain ⟨i1, i2, i3⟩ := scan_enc b ps (p + (7 + q.length)) r (fun x hx => hs x (by simp [hx])) hd
    have hlen : p + (encB (q :: ps)).length = p + (7 + q.length) + (encB ps).length := by rw [encB_cons, List.length_append, hlw]; omega
    refine ⟨?_, ?_, by rw [hlen]; exact i3⟩
    · rw [scanB_ok hlt (by rw [he]), he]
      simp only
      rw [i1, hlen]
      rfl
    · simp only [placesB, List.map_cons, i2]
      congr 1
      have e1 : b.drop (p + 7) = q ++ (encB ps ++ r) := by
        rw [← List.drop_drop, h, wrapB_eq hq, List.append_assoc]; rfl
      rw [payB, e1, show p + (7 + q.length) - (p + 7) = q.length by omega]
      simp
theorem shortL_take {ps : List (List UInt8)} (h : shortL ps) (k : Nat) : shortL (ps.take k) := fun p hp => h p (List.mem_of_mem_take hp)
/-- How long the first j are. -/
def lenB (ps : List (List UInt8)) (j : Nat) : Nat := (encB (ps.take j)).length
theorem lenB_step {ps : List (List UInt8)} {j : Nat} (h : j < ps.length) (hs : shortL ps) : lenB ps (j + 1) = lenB ps j + (7 + ps[j].length) := by
  rw [lenB, List.take_succ_eq_append_getElem h, encB_snoc, List.length_append, wrapB_len (hs _ (List.getElem_mem h))]; rfl
theorem encB_split (ps : List (List UInt8)) (j : Nat) : encB ps = encB (ps.take j) ++ encB (ps.drop j) := by
  simp only [encB]
  rw [← List.flatten_append, ← List.map_append, List.take_append_drop]
theorem lenB_le (ps : List (List UInt8)) (j : Nat) : lenB ps j ≤ (encB ps).length := by
  rw [encB_split ps j, List.length_append]; exact Nat.le_add_right _ _
theorem lenB_all (ps : List (List UInt8)) {j : Nat} (h : ps.length ≤ j) : lenB ps j = (encB ps).length := by rw [lenB, List.take_of_length_le h]
/-- A log cut off: the frames that lie whole within; 91 where one is torn. -/
theorem scan_cut (ps : List (List UInt8)) (hs : shortL ps) (k j : Nat) (hk : k ≤ (encB ps).length) (h1 : lenB ps j ≤ k) (hj : j ≤ ps.length) (h2 : j < ps.length → k < lenB ps (j + 1)) :
    scanB ((encB ps).take k) 0 = (placesB 0 (ps.take j), if k = lenB ps j then 0 else 91) ∧ (placesB 0 (ps.take j)).map (payB ((encB ps).take k)) = ps.take j := by
  have hl : ((encB ps).take k).length = k := by rw [List.length_take]; omega
  have e : (encB ps).take k = encB (ps.take j) ++ (encB (ps.drop j)).take (k - lenB ps j) := by
    conv => lhs; rw [encB_split ps j]
    rw [List.take_append, List.take_of_length_le h1]; rfl
  obtain ⟨i1, i2, i3⟩ := scan_enc ((encB ps).take k) (ps.take j) 0 _ (shortL_take hs j) (by rw [List.drop_zero]; exact e)
  refine ⟨?_, i2⟩
  rw [i1, Nat.zero_add]
  rw [Nat.zero_add] at i3
  change _ = (placesB 0 (ps.take j), _)
  by_cases c : k = lenB ps j
  · rw [if_pos c, scanB_end (by rw [hl, c]; exact Nat.lt_irrefl _)]; simp
  · rw [if_neg c]
    have hjl : j < ps.length := by
      rcases Nat.lt_or_ge j ps.length with g | g
      · exact g
      · have := lenB_all ps g; omega
    have h3 := h2 hjl
    rw [lenB_step hjl hs] at h3
    have e91 : endB (((encB ps).take k).drop (encB (ps.take j)).length) = (0, 91) := by
      rw [i3, List.drop_eq_getElem_cons hjl, encB_cons, List.take_append_of_le_length (by rw [wrapB_len (hs _ (List.getElem_mem hjl))]; omega)]
      exact endB_cut _ _ (hs _ (List.getElem_mem hjl)) (by omega) (by omega)
    rw [scanB_bad (by rw [hl]; show lenB ps j < k; omega) (by rw [e91]; decide), e91]; simp
/-- A log with anything behind it. -/
theorem scan_more (ps : List (List UInt8)) (hs : shortL ps) (t : List UInt8) : ∃ more, (scanB (encB ps ++ t) 0).1 = placesB 0 ps ++ more ∧ (placesB 0 ps).map (payB (encB ps ++ t)) = ps := by
  obtain ⟨i1, i2, _⟩ := scan_enc (encB ps ++ t) ps 0 t hs rfl
  exact ⟨_, by rw [i1], i2⟩
/-- What was read, wrapped again, is what lay there. -/
theorem scan_again (b : List UInt8) : ∀ (n p : Nat), b.length - p ≤ n → p ≤ b.length → ∀ j, j ≤ (scanB b p).1.length → encB (((scanB b p).1.map (payB b)).take j) = (b.drop p).take (((scanB b p).1.take j).foldl (fun _ x => x.2) p - p) ∧ p ≤ ((scanB b p).1.take j).foldl (fun _ x => x.2) p ∧ ((scanB b p).1.take j).foldl (fun _ x => x.2) p ≤ b.length ∧ shortL ((scanB b p).1.map (payB b)) := by
  intro n
  induction n with
  | zero =>
    intro p h1 h2 j hj
    rw [scanB_end (by omega)]
    simp [encB, shortL, h2]
  | succ n ih =>
    intro p h1 h2 j hj
    by_cases c : p < b.length
    rotate_left
    · rw [scanB_end c]
      simp [encB, shortL, h2]
    by_cases d : (endB (b.drop p)).2 = 0
    rotate_left
    · rw [scanB_bad c d]
      simp [encB, shortL, h2]
    have h7 := endB_zero _ d
    have hle := endB_le (b.drop p)
    rw [List.length_drop] at hle
    have he : endB (b.drop p) = ((endB (b.drop p)).1, 0) := Prod.ext rfl d
    obtain ⟨f1, f2, f3⟩ := frame_back he
    rw [scanB_ok c d] at hj ⊢
    generalize (endB (b.drop p)).1 = e at *
    have hp : payB b (p, p + e) = ((b.drop p).drop 7).take (e - 7) := by rw [payB, List.drop_drop]; congr 1; omega
    simp only [List.map_cons, List.length_cons] at hj ⊢
    obtain ⟨g1, g2, g3, g4⟩ := ih (p + e) (by omega) (by omega) (j - 1) (by omega)
    have gs : shortL (payB b (p, p + e) :: (scanB b (p + e)).1.map (payB b)) := fun x hx => by
      rcases List.mem_cons.1 hx with rfl | hx
      · rw [hp, f2]; exact f3
      · exact g4 x hx
    cases j with
    | zero => simp [encB, gs, h2]
    | succ j =>
      simp only [List.take_succ_cons, List.foldl_cons, Nat.add_sub_cancel] at g1 g2 g3 ⊢
      refine ⟨?_, by omega, g3, gs⟩
      rw [encB_cons, hp, f1, g1, ← List.drop_drop]
      rw [← List.take_add]
      congr 1; omega
end Go.Proofs.Ytfanghiakbddcaa
