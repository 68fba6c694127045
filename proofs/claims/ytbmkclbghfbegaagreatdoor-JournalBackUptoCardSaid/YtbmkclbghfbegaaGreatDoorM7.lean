/- THE LAW JournalBack, of bulk at most 1048576. Conditions: the tables of sha and the journal's kinds hold what their text lays (the card ties it). -/
import Derived.Test.YtbmkclbghfbegaaGreatDoorM6
import Derived.OpenShut
import Derived.Test.YtbmkclbghfbegaaGreatDoorCards
import Derived.Test.YtbmkclbghfbegaaGreatDoorTie
import Derived.SizedLaws
import Derived.JoinedOf
set_option linter.unusedVariables false
set_option linter.unusedSectionVars false
set_option linter.unusedSimpArgs false
set_option maxRecDepth 100000
/- Js8: the document's body of a record. By this project. -/
set_option maxRecDepth 100000
namespace Go.Proofs.YtbmkclbghfbegaaGreatDoor
open Go.RowKit Go.Extern.Stop
theorem Gn {K : Kx} {nt : Nat} {hp0 : Bs} {l : VL} {df : DL} {L : HV} {Q : WQ} {x y : Code} (F : VL) (H : HV) (P : Prop) (h : WG K nt hp0 x l df L (wthen (fun l' df' L' => P ∧ df' = df ∧ SubV l' F ∧ ∀ hp, SV hp0 hp L' → SV hp0 hp H) Q)) (hk : P → WG K nt hp0 y F df H Q) : WG K nt hp0 (.seq x y) l df L Q := w_cut _ h (fun l' df' L' ⟨h1, h2, h3, h4⟩ => by
 subst h2
 exact D3 h4 (w_sub h3 (hk h1)))
end Go.Proofs.YtbmkclbghfbegaaGreatDoor
/- Jsb: the document's body of a record. By this project. -/
set_option maxRecDepth 100000
namespace Go.Proofs.YtbmkclbghfbegaaGreatDoor
open Go.RowKit Go.Extern.Stop
theorem recK_enc (r : Rec) : encs (recK r) = ((((strB (Ax r.kind.toNat) ++ strB (Ax r.count.toNat)) ++ strB (Ax r.seq.toNat)) ++ strB r.prev) ++ strB r.root) ++ (BA 192 (encs (r.ch.map chgT)).length ++ encs (r.ch.map chgT)) := by
 unfold recK numI
 simp only [encs, EK, Dj, List.append_nil, List.append_assoc]
theorem chgK_gone {c : Chg} (h : c.gone = true) : encs (chgK c) = strB c.key := by
 unfold chgK
 rw [if_pos h, encs, encs, EK, List.append_nil]
theorem chgK_not {c : Chg} (h : ¬ c.gone = true) : encs (chgK c) = strB c.key ++ strB c.val := by
 unfold chgK
 rw [if_neg h, encs, encs, encs, EK, EK, List.append_nil]
/- Js9: frames around payloads; the journal's Write. By this project. -/
def flB (n : Nat) : List UInt8 := [UInt8.ofNat (n / 65536), UInt8.ofNat (n / 256), UInt8.ofNat n]
def DI (xs : List UInt8) : List UInt8 := 202 :: (flB xs.length ++ ((flB xs.length).map (255 - ·) ++ xs))
theorem not_sub (y : UInt8) : 255 ^^^ y = 255 - y := by
 have key : ∀ k : Fin 256, (255 : UInt8) ^^^ UInt8.ofNat k.val = 255 - UInt8.ofNat k.val := by decide +kernel
 have := key ⟨y.toNat, y.toNat_lt⟩
 simpa using this
section
variable {K : Kx} {hp0 : Bs} {l : VL} {L : HV} {a b : Operand} {t t' : TypeId}
theorem p_notB {y : UInt8} (hx : evL l a = some (byV y)) : PV K.C l (.unOp .xor t a) (byV (255 - y)) := pv_un hx (by
 rw [← not_sub]
 exact vB_xor 255 y)
theorem p_buildAB {e : TypeId} {n : Nat} {Z C : List V} {xs : List (Nat × Operand)} {qs : List (Nat × List V)} [hS : ArrV K.C t n e] [he : SizeV K.C e 1] [hz : ZeroV K.C t (V.agg Z)] (hq : PartsV l (fun i => some (i, 1)) Z.length xs qs) (hC : DC Z qs = C) : PV K.C l (.build t xs.toArray) (.agg C) := by
 obtain ⟨ti, h1, h2⟩ := hz.h
 obtain ⟨ti', h3, h4⟩ := hS.h
 obtain ⟨te, h5, h6⟩ := he.h
 rw [h1] at h3
 obtain rfl := Iu h3
 haveI : TiV K.C t ti := ⟨h1⟩
 haveI : TiV K.C e te := ⟨h5⟩
 refine pv_buildA h4 h2 (qs := qs) ?_ hC
 rw [h6]
 simpa only [Nat.mul_one] using hq
end
set_option maxHeartbeats 8000000 in
theorem wrap_d {A : Option (Nat × Nat)} {xs : List UInt8} {c : Nat} {op : Bool} {hp : Hp} (ho : OkH hp) (hA : RB ⟨hp, []⟩ A (xs.map byV)) (hl : xs.length ≤ 16384) :
  Fn kxD 46 [.sl A xs.length c op] hp [] fun r N => ∃ u, r = .v u ∧ ∃ w, u = .tup [w, .i .i64 0] ∧ RowK (DI xs) w N := by
 refine Fn.dropC ?_
 refine Au (T := []) ho.sv (fun _ => rfl) (fn := Tryz.f46) (by kernel_rfl) rfl rfl ?_
 refine wo ?_
 apply wm; iterate 5 exact rfl
 refine Af (v := .b false) rfl rfl (Bm (by omega))
 refine wo ?_
 apply wm; iterate 5 exact rfl
 refine m_shrN rfl rfl (by decide)
 apply wm; iterate 5 exact rfl
 refine DG rfl
 refine wo ?_
 apply wm; iterate 5 exact rfl
 refine m_shrN rfl rfl (by decide)
 apply wm; iterate 5 exact rfl
 refine DG rfl
 refine wo ?_
 apply wm; iterate 5 exact rfl
 refine DG rfl
 apply wn; iterate 5 exact rfl
 refine p_buildAB (C := (flB xs.length).map byV) (.cons rfl rfl rfl rfl (by decide) (.cons rfl rfl rfl rfl (by decide) (.cons rfl rfl rfl rfl (by decide) .nil))) rfl
 apply p_op; exact (Aa rfl); iterate 4 exact rfl
 refine As rfl fun bs => ⟨_, rfl, ?_⟩
 apply p_do; exact (Aa rfl); exact rfl; exact rfl
 refine AG (C' := (flB xs.length).map byV) rfl rfl (by simp [flB]) rfl (Io rfl) rfl ⟨_, rfl, ?_⟩
 refine wo ?_
 apply p_op; exact (Aa rfl); iterate 4 exact rfl
 refine e_bs (C := [byV 202]) rfl rfl (.cons rfl rfl .nil) rfl fun b1 => ⟨_, rfl, ?_⟩
 refine zX (HN rfl) ?_
 apply p_op; exact (Aa rfl); iterate 4 exact rfl
 refine C8 (ys := flB xs.length) (RowU.lit1 (y := 202)) rfl rfl (Bw (k := 3) rfl) rfl CM (by decide) fun A1 m1 op1 N1 hu1 hm1 => ⟨_, rfl, ?_⟩
 subst hm1
 refine wo ?_
 apply wn; iterate 5 exact rfl
 refine FR (i := 0) rfl rfl (by decide)
 refine zX (Bi (v := byV (UInt8.ofNat (xs.length / 65536))) rfl rfl) ?_
 apply wn; iterate 5 exact rfl
 refine p_notB rfl
 apply wn; iterate 5 exact rfl
 refine FR (i := 1) rfl rfl (by decide)
 refine zX (Bi (v := byV (UInt8.ofNat (xs.length / 256))) rfl rfl) ?_
 apply wn; iterate 5 exact rfl
 refine p_notB rfl
 apply wn; iterate 5 exact rfl
 refine FR (i := 2) rfl rfl (by decide)
 refine zX (Bi (v := byV (UInt8.ofNat xs.length)) rfl rfl) ?_
 apply wn; iterate 5 exact rfl
 refine p_notB rfl
 apply p_op; exact (Aa rfl); iterate 4 exact rfl
 refine e_bs (C := ((flB xs.length).map (255 - ·)).map byV) rfl rfl (.cons rfl rfl (.cons rfl rfl (.cons rfl rfl .nil))) rfl fun b2 => ⟨_, rfl, ?_⟩
 apply p_op; exact (Aa rfl); iterate 4 exact rfl
 refine C8 (ys := (flB xs.length).map (255 - ·)) hu1 rfl rfl (Bw (k := 3) rfl) rfl CM (by show 4 + 3 ≤ _; omega) fun A2 m2 op2 N2 hu2 hm2 => ⟨_, rfl, ?_⟩
 subst hm2
 refine wo ?_
 apply p_op; exact (Aa rfl); iterate 4 exact rfl
 refine C8 hu2 rfl rfl hA.z rfl CM (by show 4 + 3 + _ ≤ _; omega) fun A3 m3 op3 N3 hu3 hm3 => ⟨_, rfl, ?_⟩
 refine wo ?_
 exact Ay (Ag (B8 (Ai rfl) (Ai rfl)) ⟨N3, cle, _, rfl, _, rfl, by
  have e : DI xs = ([202] ++ flB xs.length) ++ (flB xs.length).map (255 - ·) ++ xs := by simp [DI]
  rw [e]
  exact hu3⟩)
set_option maxHeartbeats 16000000 in
theorem jwrite_d {B : Bk} {b bits cb : Nat} {sec : List UInt8} {ha ca : List (List UInt8)} {fs : List (List UInt8 × List UInt8)} {r : Rec} {v : List V} {hp : Hp} (hB : BkSt B b bits cb sec ha ca fs) (h0 : SV ⟨hp, hnds (bkL B)⟩ hp (bkL B)) (hk : Tab ⟨hp, hnds (bkL B)⟩) (hkk : KTab ⟨hp, hnds (bkL B)⟩) (hr : RecR ⟨hp, hnds (bkL B)⟩ r v) (hl : ca.length < 100000000) :
  Fn kxD 13 [.p (some (b, 0)), .agg v] hp (hnds (bkL B)) fun r' N => ∃ u, r' = .v u ∧ ((mayR r → ∃ w M B', u = .tup [w, hK (cutB cb (macB sec (Bo r))), .i .i64 0] ∧ RowK (DI (Bo r ++ cutB cb (macB sec (Bo r)))) w M ∧ BkSt B' b bits cb sec ha (addS ca (Bo r)) fs ∧ N = M ++ bkL B') ∧ (¬ mayR r → u = .tup [.sl none 0 0 false, hK (List.replicate 32 0), .i .i64 2] ∧ N = bkL B)) := by
 have hr0 := hr
 obtain ⟨hok, A, c, o, vs, rfl, hA, hvs⟩ := hr
 have hC : (recC r (.sl A r.ch.length c o)).length = 68 := Dg hok
 have hrl := hok.len
 have hne : ∀ {l : List V}, l.length = 32 → l ≠ [] := fun hl e => by rw [e] at hl; simp at hl
 refine Fn.dropC ?_
 refine Au h0 (fun _ => rfl) (fn := Tryz.f13) (by kernel_rfl) rfl rfl ?_
 refine wo ?_
 apply p_op; exact (Aa rfl); iterate 4 exact rfl
 refine Br rfl rfl fun bx => ⟨_, rfl, ?_⟩
 refine wo ?_
 apply p_op; exact (Aa rfl); iterate 4 exact rfl
 refine As rfl fun bh => ⟨_, rfl, ?_⟩
 refine wo ?_
 apply wm; iterate 5 exact rfl
 refine m_eqp rfl rfl
 refine wo ?_
 refine zX (AO (s := 67) (cs := recC r (.sl A r.ch.length c o)) rfl (by rw [List.drop_zero]; exact Ip (by omega)) hC) ?_
 apply AU []; exact (Aa rfl); iterate 4 exact rfl
 case hC => exact (fun hp hs ht => jbody_d hs.ok (hkk.give0 hs) (hr0.give0 hs))
 rintro u N ⟨hgood, hbad⟩
 by_cases hm : mayR r
 rotate_left
 ·obtain ⟨rfl, rfl⟩ := hbad hm
  refine wo ?_
  apply wm; iterate 5 exact rfl
  refine Af (v := .b true) rfl rfl (Cu ((by simp)))
  refine wo ?_
  apply wn; iterate 5 exact rfl
  refine DE
  refine wo ?_
  apply p_do; exact (Aa rfl); exact rfl; exact rfl
  refine AG (C' := (List.replicate 32 (0 : UInt8)).map byV) rfl rfl (by simp) rfl (by decide) rfl ⟨_, rfl, ?_⟩
  refine wo ?_
  exact Ay (Ag (FP (Ai rfl) (AB rfl rfl) (Ai rfl)) ⟨bkL B, cle, _, rfl, fun h => absurd h hm, fun _ => ⟨rfl, rfl⟩⟩)
 obtain ⟨w, rfl, hu⟩ := hgood hm
 obtain ⟨A1, o1, rfl⟩ := hu.sl
 have hbl := FK hok hm
 have hcl : (cutB cb (macB sec (Bo r))).length = 32 := by rw [Dk, H7]
 have hcl' : ((cutB cb (macB sec (Bo r))).map byV).length = 32 := by rw [List.length_map, hcl]
 refine wo ?_
 apply wm; iterate 5 exact rfl
 refine Af (v := .b false) rfl rfl (AK ((by simp)))
 refine wo ?_
 apply Db (bkL B); exact (Aa rfl); iterate 4 exact rfl
 case hC => exact (fun hp hs ht => code_gs hB ht (hk.give hs) (hu.rb hs) ⟨Nat.le_refl _, fun _ => Nat.le_refl _⟩ (by omega) hl)
 rintro u2 N2 ⟨rfl, B', hB', rfl⟩
 apply p_op; exact (Aa rfl); iterate 4 exact rfl
 refine As rfl fun bt => ⟨_, rfl, ?_⟩
 apply p_do; exact (Aa rfl); exact rfl; exact rfl
 refine AG (C' := (cutB cb (macB sec (Bo r))).map byV) rfl rfl (hne hcl') hcl' (by simp) (AC (by rw [hcl']; simp)) ⟨_, rfl, ?_⟩
 refine wo ?_
 refine zX (HN rfl) ?_
 apply p_op; exact (Aa rfl); iterate 4 exact rfl
 refine C8 (ys := cutB cb (macB sec (Bo r))) hu rfl rfl (Bw (k := 32) (by rw [List.drop_zero]; exact Ip (by omega))) hcl CM (by omega) fun A3 m3 op3 N3 hu3 hm3 => ⟨_, rfl, ?_⟩
 have hl3 : (Bo r ++ cutB cb (macB sec (Bo r))).length = (Bo r).length + 32 := by rw [List.length_append, hcl]
 rw [← hl3] at hm3
 subst hm3
 apply AU []; exact (Aa rfl); iterate 4 exact rfl
 case hC => exact (fun hp hs ht => wrap_d hs.ok (hu3.rb (Lt := []) hs) (by omega))
 rintro u4 N4 ⟨w4, rfl, hu4⟩
 obtain ⟨A4, o4, rfl⟩ := hu4.sl
 refine wo ?_
 apply wm; iterate 5 exact rfl
 refine Af (v := .b false) rfl rfl (AK ((by simp)))
 refine wo ?_
 refine yX (AO (s := 31) (cs := (cutB cb (macB sec (Bo r))).map byV) rfl (by rw [List.drop_zero]; exact Ip (by omega)) hcl') ?_
 refine wo ?_
 apply d_do; exact (Aa rfl); exact rfl; exact noRd rfl; decide +kernel; exact rfl; rotate_left
 refine AG (C' := (cutB cb (macB sec (Bo r))).map byV) rfl rfl (hne hcl') hcl' (by simp) (AC (by rw [hcl']; simp)) ⟨_, rfl, ?_⟩
 try (case hok => exact Bf (by decide +kernel))
 refine wo ?_
 exact Ay (Ag (FP (Ai rfl) (AB rfl hcl') (Ai rfl)) ⟨N4 ++ bkL B', cle, _, rfl, fun _ => ⟨_, N4, B', rfl, hu4, hB', rfl⟩, fun h => absurd hm h⟩)
/- Jsc: the document's frame, code, book, Write. By this project. -/
section
variable {K : Kx} {hp0 : Bs} {l : VL} {L : HV}
end
theorem lit0 {e : TypeId} {b : Nat} : RowU e [] (.sl (some (b, 0)) 0 0 false) [(some b, Am [] e)] := RowU.lit rfl rfl
abbrev rbC (bits cb : Nat) (z cd : V) : List V := [.i .i64 (bits : Int), .i .i64 (cb : Int), z, .sl none 0 0 false, cd, .sl none 0 0 false]
set_option maxHeartbeats 8000000 in
theorem new04_d {A : Option (Nat × Nat)} {xs : List UInt8} {bits cb c : Nat} {op : Bool} {hp : Hp} (ho : OkH hp) (hA : RB ⟨hp, []⟩ A (xs.map byV)) (hx : xs.length = 32) (b1 : 8 ≤ bits) (b2 : bits ≤ 256) (c1 : 8 ≤ cb) (c2 : cb ≤ 256) :
  Fn kxD 34 [.i .i64 (bits : Int), .i .i64 (cb : Int), .sl A xs.length c op] hp [] fun r N => ∃ u, r = .v u ∧ ∃ b Z o M, u = .tup [.p (some (b, 0)), .i .i64 0] ∧ RowK xs (.sl Z xs.length xs.length o) M ∧ N = (some b, Am (rbC bits cb (.sl Z xs.length xs.length o) (.sl none 0 0 false)) 51) :: M := by
 refine Fn.dropC ?_
 refine Au (T := []) ho.sv (fun _ => rfl) (fn := Tryz.f34) (by kernel_rfl) rfl rfl ?_
 refine wo ?_
 apply wm; iterate 5 exact rfl
 refine Af (v := .b false) rfl rfl (AF (by omega))
 refine wo ?_
 apply wmg; iterate 7 exact rfl
 refine Af (v := .b false) rfl rfl (Bm (by omega))
 refine wo ?_
 apply wmg; iterate 7 exact rfl
 refine Af (v := .b false) rfl rfl (AF (by omega))
 refine wo ?_
 apply wmg; iterate 7 exact rfl
 refine Af (v := .b false) rfl rfl (Bm (by omega))
 refine wo ?_
 apply wm; iterate 5 exact rfl
 refine Af (v := .b false) rfl rfl (AK (by omega))
 refine wo ?_
 apply p_op; exact (Aa rfl); iterate 4 exact rfl
 refine e_bs (C := []) rfl rfl .nil rfl fun b0 => ⟨_, rfl, ?_⟩
 refine wo ?_
 apply p_op; exact (Aa rfl); iterate 4 exact rfl
 refine C8 (ys := xs) lit0 rfl rfl hA.z rfl CM (by simp; omega) fun A1 m1 o1 N1 hu1 hm1 => ⟨_, rfl, ?_⟩
 rw [List.nil_append] at hu1
 have hm2 : xs.length = m1 := by rw [hm1]; simp
 subst hm2
 apply wn; iterate 5 exact rfl
 refine Av (C := rbC bits cb (.sl A1 xs.length xs.length o1) (.sl none 0 0 false)) (.cons rfl rfl rfl rfl (Io rfl) (.cons rfl rfl rfl rfl (Io rfl) (.cons rfl rfl rfl rfl (Io rfl) .nil))) rfl
 apply p_op; exact (Aa rfl); iterate 4 exact rfl
 refine Br rfl rfl fun b => ⟨_, rfl, ?_⟩
 refine wo ?_
 exact Ay (Ag (B8 (Ai rfl) (Ai rfl)) ⟨_ :: N1, cle, _, rfl, b, A1, o1, _, rfl, hu1, rfl⟩)
/- Jsd: the document's Code and Write by a book that has coded nothing yet. By this project. -/
/- Ds18: the statement DigestLess on the machine: fewer bits are the first bits. By this project. -/
def kB (r : Nat) : UInt8 := UInt8.ofNat (128 / 2 ^ r)
def bt (y : UInt8) (r : Nat) : UInt8 := UInt8.ofNat ((UInt8.ofNat (y.toNat / (kB r).toNat)).toNat % (2 : UInt8).toNat)
/- Ds19: equal bytes told as equal; DigestForges on the machine. By this project. -/
theorem common_d {A A2 : Option (Nat × Nat)} {xs : List UInt8} {c c2 : Nat} {o1 o2 : Bool} {hp : Hp} (ho : OkH hp) (hA : RB ⟨hp, []⟩ A (xs.map byV)) (hA2 : RB ⟨hp, []⟩ A2 (xs.map byV)) (hl : xs.length < 4611686018427387904) :
  Fn kxD 75 [.sl A xs.length c o1, .sl A2 xs.length c2 o2] hp [] fun r _ => r = .v (.i .i64 (xs.length : Int)) := by
 refine Au (T := []) ho.sv (fun _ => rfl) (fn := Tryz.f75) (by kernel_rfl) rfl rfl ?_
 refine wo ?_
 refine BM ?_
 refine wo ?_
 refine Bq (ι := Nat) (fun i => [(5, .i .i64 (i : Nat)), (0, .sl A xs.length c o1), (1, .sl A2 xs.length c2 o2)]) (fun _ => []) (fun i => i ≤ xs.length) (fun i => xs.length - i) 0 (Nat.zero_le _) ⟨rfl, rfl, rfl, trivial⟩ (fun hp h => h) ?_
 intro i hi
 refine wo ?_
 by_cases g : i < xs.length
 ·obtain ⟨b1, p1, rfl⟩ := H3 hA.1.rv (by rw [List.length_map]; omega)
  obtain ⟨b2, p2, rfl⟩ := H3 hA2.1.rv (by rw [List.length_map]; omega)
  have hv : (xs.map byV)[i]? = some (byV xs[i]) := by rw [List.getElem?_map, Iq g]; rfl
  apply dm; iterate 6 exact rfl
  refine Af (v := .b true) rfl rfl (AL (by omega))
  refine wo ?_
  apply dmg; iterate 8 exact rfl
  refine Af (v := .b true) rfl rfl (AL (by omega))
  refine wo ?_
  apply dg; iterate 7 exact rfl
  refine p_ia rfl rfl g
  apply dmg; iterate 8 exact rfl
  refine BO rfl hA.1 hA.2 rfl hv
  refine wo ?_
  apply dg; iterate 7 exact rfl
  refine p_ia rfl rfl g
  apply dmg; iterate 8 exact rfl
  refine BO rfl hA2.1 hA2.2 rfl hv
  apply dmg; iterate 8 exact rfl
  refine Af (v := .b true) rfl rfl (Be (rfl))
  refine wo ?_
  exact ⟨rfl, i + 1, g, by omega, ⟨rfl, rfl, rfl, trivial⟩, fun hp h => h⟩
 ·apply dm; iterate 6 exact rfl
  refine Af (v := .b false) rfl rfl (AF (by omega))
  refine wo ?_
  refine Bd ?_
  obtain rfl : i = xs.length := by omega
  refine wo ?_
  exact Ay (Ag (AR (Ai rfl)) rfl)
theorem same_d {A A2 : Option (Nat × Nat)} {xs : List UInt8} {c c2 : Nat} {o1 o2 : Bool} {hp : Hp} (ho : OkH hp) (hA : RB ⟨hp, []⟩ A (xs.map byV)) (hA2 : RB ⟨hp, []⟩ A2 (xs.map byV)) (hl : xs.length < 4611686018427387904) :
  Fn kxD 14 [.sl A xs.length c o1, .sl A2 xs.length c2 o2] hp [] fun r _ => r = .v (.b true) := by
 have hcmp : ∀ {hp : Hp}, OkH hp → RB ⟨hp, []⟩ A (xs.map byV) → RB ⟨hp, []⟩ A2 (xs.map byV) → Fn kxD 47 [.sl A xs.length c o1, .sl A2 xs.length c2 o2] hp [] fun r _ => r = .v (.i .i64 0) := by
  intro hp ho hA hA2
  refine Au (T := []) ho.sv (fun _ => rfl) (fn := Tryz.f47) (by kernel_rfl) rfl rfl ?_
  refine wo ?_
  refine AY (Aa rfl) rfl rfl rfl rfl (fun hp hs => common_d hs.ok (hA.give0 hs) (hA2.give0 hs) hl) ?_
  refine wo ?_
  apply wm; iterate 5 exact rfl
  refine Af (v := .b true) rfl rfl (Be (rfl))
  refine wo ?_
  apply wmg; iterate 7 exact rfl
  refine Af (v := .b true) rfl rfl (Be (rfl))
  refine wo ?_
  exact Ay (Ag (AR (Ai rfl)) rfl)
 refine Au (T := []) ho.sv (fun _ => rfl) (fn := Tryz.f14) (by kernel_rfl) rfl rfl ?_
 refine wo ?_
 refine AY (Aa rfl) rfl rfl rfl rfl (fun hp hs => hcmp hs.ok (hA.give0 hs) (hA2.give0 hs)) ?_
 refine wo ?_
 apply wm; iterate 5 exact rfl
 refine Af (v := .b true) rfl rfl (Be (rfl))
 refine wo ?_
 exact Ay (Ag (AR (Ai rfl)) rfl)
/- Jse: the statements' Roomy, Whole, Copy, whole, Same. By this project. -/
section
variable {K : Kx} {hp0 : Bs} {l : VL} {L : HV}
theorem m_sl0 {t e : TypeId} {x : Operand} {lo hi : Option Operand} {b o m c j s : Nat} {op : Bool} [hS : SliceV K.C t e] [hs : SizeV K.C e s] (hx : evL l x = some (.sl (some (b, o)) m c op)) (hlo : Bt l lo 0 0) (hhi : Bt l hi m j) (h2 : j ≤ c) : MV K hp0 l L (.slice t x lo hi none) [] (.sl (some (b, o)) j c op) := by
 obtain ⟨ti, h3, h4⟩ := hS.h
 obtain ⟨te, h5, h6⟩ := hs.h
 refine Ee (fun _ _ => rfl) fun call fr hp hf => ?_
 show CG K.C fr hp t x lo hi none = _
 cases op with
 | true => simp only [CG, hf.ev hx, Ir, EQ, h3, hlo fr hf, h4, h5, hhi fr hf, GT h2, GT (Nat.zero_le j)]
 | false => simp only [CG, hf.ev hx, Ir, EQ, h3, hlo fr hf, h4, h5, hhi fr hf, GT h2, GT (Nat.zero_le j), Ed, Nat.sub_zero]
theorem e_appRn {tS tX e eX E : TypeId} {s x : Operand} {A : Option (Nat × Nat)} {b m n c c' i sz : Nat} {op op' : Bool} {C C' ds : List V} {oo : Option Nat} {mk : Bool} {L' : HV} {k : VR → HV → Prop} [hS : SliceV K.C tS e] [hz : SizeV K.C e (sz + 1)] [hX : SliceV K.C tX eX] (hs : evL l s = some (.sl (some (b, 0)) m c op)) (hx : evL l x = some (.sl A n c' op')) [hL : AtV b L (.cells C E oo mk) i] (hr : RZ hp0 L A ds) (hn : ds.length = n * (sz + 1)) (h0 : 0 < n) (hroom : m + n ≤ c) (hf : m * (sz + 1) + ds.length ≤ C.length) (hC : Cg C (m * (sz + 1)) ds = C') [hS' : SetV L i (some b, .cells C' E oo mk) L']
  (hk : k (.v (.sl (some (b, 0)) (m + n) c op)) L') : EV K hp0 l L (.call { callee := .builtin .append, args := #[s, x], argTypes := #[tS, tX] }) [b] k := by
 obtain ⟨ti, h3, h4⟩ := hS.h
 obtain ⟨te, h5, h6⟩ := hz.h
 obtain ⟨tx, h7, h8⟩ := hX.h
 haveI : TiV K.C tS ti := ⟨h3⟩
 haveI : TiV K.C e te := ⟨h5⟩
 haveI : TiV K.C tX tx := ⟨h7⟩
 refine ev_appR (C := C) (C' := C') (o := 0) hs hx h4 (HI h8 hr (by rw [h6]; exact hn) (by omega)) (fun e => ?_) hroom (by rw [h6]; omega) (by rw [h6, Nat.zero_add]; exact hC) hk
 rw [e, List.length_nil] at hn
 have := Nat.mul_pos h0 (show 0 < sz + 1 by omega)
 omega
theorem e_mksn {t e : TypeId} {x y : Operand} {m c s : Nat} {p q : Int} {k k' : IntKind} {z : V} {zc : List V} {kk : VR → HV → Prop} [hS : SliceV K.C t e] [hz : ZeroV K.C e z] (hx : evL l x = some (.i k p)) [hp' : CastN p m] (hy : evL l y = some (.i k' q)) [hq : CastN q c] (hc : z.cells = some zc) (hmc : m ≤ c) (hg : ∃ te, tiV K.C e = some te ∧ growB c te.bytes = true) (hzl : zc.length = s)
  (hk : ∀ b C, C.length = c * s → kk (.v (.sl (some (b, 0)) m c false)) ((some b, Am C e) :: L)) : EV K hp0 l L (.makeSlice t x y) [] kk := by
 obtain ⟨ti, h3, h4⟩ := hS.h
 obtain ⟨te, h5, h6⟩ := hz.h
 obtain ⟨te', h7, h8⟩ := hg
 rw [h5] at h7
 obtain rfl := Iu h7
 obtain rfl := hp'.h
 obtain rfl := hq.h
 haveI : TiV K.C t ti := ⟨h3⟩
 haveI : TiV K.C e te := ⟨h5⟩
 refine ev_mksG hx hy h4 h6 hc hmc h8 fun b => hk b _ ?_
 clear hy hmc h8 hk hq
 induction c with
 | zero => rw [GD]; simp
 | succ c ih => rw [CZ, List.length_append, ih, hzl, Nat.succ_mul, Nat.add_comm]
end
def mk3 : List UInt8 := [77, 78, 79]
theorem roomy01_d {A : Option (Nat × Nat)} {xs : List UInt8} {c : Nat} {op : Bool} {hp : Hp} (ho : OkH hp) (hA : RB ⟨hp, []⟩ A (xs.map byV)) (hl : xs.length ≤ 140737488355328) :
  Fn kxD 24 [.sl A xs.length c op] hp [] fun r N => ∃ u, r = .v u ∧ ∃ b o1 oo, u = .sl (some (b, 0)) xs.length (xs.length + 3) o1 ∧ N = [(some b, .cells ((xs ++ mk3).map byV) 5 oo false)] := by
 refine Fn.dropC ?_
 refine Au (T := []) ho.sv (fun _ => rfl) (fn := Tryz.f24) (by kernel_rfl) rfl rfl ?_
 refine wo ?_
 apply p_op; exact (Aa rfl); iterate 4 exact rfl
 refine e_bs (C := []) rfl rfl .nil rfl fun bn => ⟨_, rfl, ?_⟩
 refine wo ?_
 apply p_op; exact (Aa rfl); iterate 4 exact rfl
 refine C8 (ys := xs) lit0 rfl rfl hA.z rfl CM (by simp; omega) fun A1 m1 o1 N1 hu1 hm1 => ⟨_, rfl, ?_⟩
 apply p_op; exact (Aa rfl); iterate 4 exact rfl
 refine e_bs (C := mk3.map byV) rfl rfl (.cons rfl rfl (.cons rfl rfl (.cons rfl rfl .nil))) rfl fun bm => ⟨_, rfl, ?_⟩
 apply p_op; exact (Aa rfl); iterate 4 exact rfl
 refine C8 (ys := mk3) hu1 rfl rfl (Bw (k := 3) rfl) rfl CM (by simp; omega) fun A2 m2 o2 N2 hu2 hm2 => ⟨_, rfl, ?_⟩
 rw [List.nil_append] at hu2
 have hm3 : m2 = xs.length + 3 := by rw [hm2]; simp
 subst hm3
 refine wo ?_
 generalize hys : xs ++ mk3 = ys at hu2
 have hyl : ys.length = xs.length + 3 := by rw [← hys, List.length_append]; rfl
 generalize hw : V.sl A2 (xs.length + 3) (xs.length + 3) o2 = w2 at hu2
 cases hu2 with
 | nil => simp at hyl
 | @own _ b2 op2 oo h =>
  rw [hyl] at hw
  obtain ⟨rfl, rfl⟩ : A2 = some (b2, 0) ∧ o2 = op2 := by injection hw with h1 _ _ h2; exact ⟨h1, h2⟩
  refine zX (m_sl0 rfl Cj (BR rfl) (by omega)) ?_
  refine wo ?_
  exact Ay (Ag (AR (Ai rfl)) ⟨[_], cle, _, rfl, b2, o2, oo, by rw [hyl], rfl⟩)
set_option maxHeartbeats 16000000 in
theorem same19_d {r : Rec} {v w : List V} {hp : Hp} (ho : OkH hp) (hv : RecR ⟨hp, []⟩ r v) (hw : RecR ⟨hp, []⟩ r w) :
  Fn kxD 20 [.agg v, .agg w] hp [] fun r' _ => r' = .v (.b true) := by
 obtain ⟨hok, A, c, o, vs, rfl, hA, hvs⟩ := hv
 obtain ⟨_, A', c', o', ws, rfl, hA', hws⟩ := hw
 have hrl := hok.len
 have hch : (recC r (.sl A r.ch.length c o))[0 + 67]? = some (.sl A r.ch.length c o) := by rw [Nat.zero_add]; exact F7 hok
 have hch' : (recC r (.sl A' r.ch.length c' o'))[0 + 67]? = some (.sl A' r.ch.length c' o') := by rw [Nat.zero_add]; exact F7 hok
 have h32 : (r.prev.map byV).length = 32 := by rw [List.length_map, hok.prev]
 have h32' : (r.root.map byV).length = 32 := by rw [List.length_map, hok.root]
 refine Au (T := []) ho.sv (fun _ => rfl) (fn := Tryz.f20) (by kernel_rfl) rfl rfl ?_
 refine wo ?_
 apply p_op; exact (Aa rfl); iterate 4 exact rfl
 refine Br rfl rfl fun b1 => ⟨_, rfl, ?_⟩
 apply p_op; exact (Aa rfl); iterate 4 exact rfl
 refine Br rfl rfl fun b2 => ⟨_, rfl, ?_⟩
 refine wo ?_
 apply wm; iterate 5 exact rfl
 refine Af (v := .b false) rfl rfl (AK ((by simp)))
 refine wo ?_
 apply wmg; iterate 7 exact rfl
 refine Af (v := .b false) rfl rfl (AK ((by simp)))
 refine wo ?_
 apply wmg; iterate 7 exact rfl
 refine Af (v := .b false) rfl rfl (AK ((by simp)))
 refine wo ?_
 refine zX (AO (s := 31) (cs := r.prev.map byV) rfl (recC_prev hok) h32) ?_
 refine wo ?_
 refine zX (AO (s := 31) (cs := r.prev.map byV) rfl (recC_prev hok) h32) ?_
 apply wmg; iterate 7 exact rfl
 refine m_neqA rfl rfl rfl hok.prev hok.prev
 rw [decide_eq_true rfl]
 refine wo ?_
 refine zX (AO (s := 31) (cs := r.root.map byV) rfl (recC_root hok) h32') ?_
 refine wo ?_
 refine zX (AO (s := 31) (cs := r.root.map byV) rfl (recC_root hok) h32') ?_
 apply wmg; iterate 7 exact rfl
 refine m_neqA rfl rfl rfl hok.root hok.root
 rw [decide_eq_true rfl]
 refine wo ?_
 refine zX (Bi rfl hch) ?_
 refine wo ?_
 refine zX (Bi rfl hch') ?_
 refine wo ?_
 apply wmg; iterate 7 exact rfl
 refine Af (v := .b false) rfl rfl (AK ((by simp)))
 refine wo ?_
 iterate 4 ((try refine BM ?_); refine wo ?_)
 refine Bq (ι := Nat) (fun i => [(5, .i .i64 (i : Nat)), (2, .p (some (b1, 0))), (3, .p (some (b2, 0)))]) (fun i => [(some b2, Am (recC r (.sl A' r.ch.length c' o')) 26), (some b1, Am (recC r (.sl A r.ch.length c o)) 26)]) (fun i => i ≤ r.ch.length) (fun i => r.ch.length - i) 0 (Nat.zero_le _) ⟨rfl, rfl, rfl, trivial⟩ (fun hp h => h) ?_
 intro i hi
 refine wo ?_
 refine zX (Bi rfl hch) ?_
 refine wo ?_
 by_cases g : i < r.ch.length
 rotate_left
 ·apply wm; iterate 5 exact rfl
  refine Af (v := .b false) rfl rfl (AF (by omega))
  refine wo ?_
  refine Bd ?_
  refine wo ?_
  exact Ay (Ag (AR (Ai rfl)) rfl)
 obtain ⟨b, oa, vi, rfl, hvi, hti, h3, hne⟩ := ch_at hA hvs g
 obtain ⟨A1, kc, ko, A2, vc, vo, rfl, hk1, hk2⟩ := hti
 obtain ⟨b', oa', vi', rfl, hvi', hti', h3', hne'⟩ := ch_at hA' hws g
 obtain ⟨A1', kc', ko', A2', vc', vo', rfl, hk1', hk2'⟩ := hti'
 have hkv := hok.kv _ (List.getElem_mem g)
 apply wm; iterate 5 exact rfl
 refine Af (v := .b true) rfl rfl (AL (by omega))
 refine wo ?_
 refine yX (Bi rfl hch) ?_
 refine wo ?_
 apply dn; iterate 5 exact rfl
 refine CO rfl rfl g
 apply dm; iterate 6 exact rfl
 refine BT (j := i * 3) (s := 2) rfl hA.1 hA.2 rfl hvi h3
 refine wo ?_
 refine yX (Bi rfl hch') ?_
 refine wo ?_
 apply dn; iterate 5 exact rfl
 refine CO rfl rfl g
 apply dm; iterate 6 exact rfl
 refine BT (j := i * 3) (s := 2) rfl hA'.1 hA'.2 rfl hvi' h3'
 apply d_op; exact (Aa rfl); exact rfl; exact noRd rfl; decide +kernel; (iterate 3 exact rfl); rotate_left
 refine As rfl fun b5 => ⟨_, rfl, ?_⟩
 try (case hok => exact A9)
 apply d_op0; exact (Aa rfl); exact rfl; exact noRd rfl; decide +kernel; (iterate 3 exact rfl)
 refine en_alloc rfl fun b6 => ?_
 refine wd_know (φ := (NotIn b1 [b5] ∧ NotIn b2 [b5]) ∧ NotIn b1 [b6] ∧ NotIn b2 [b6]) (fun hp hs => ⟨⟨⟨fun h => ?_⟩, ⟨fun h => ?_⟩⟩, ⟨fun h => ?_⟩, ⟨fun h => ?_⟩⟩) fun hni => ?_
 ·have := List.mem_singleton.1 h
  subst this
  have := hs.one 1 3 _ _ _ rfl rfl
  omega
 ·have := List.mem_singleton.1 h
  subst this
  have := hs.one 1 2 _ _ _ rfl rfl
  omega
 ·have := List.mem_singleton.1 h
  subst this
  have := hs.one 0 3 _ _ _ rfl rfl
  omega
 ·have := List.mem_singleton.1 h
  subst this
  have := hs.one 0 2 _ _ _ rfl rfl
  omega
 obtain ⟨⟨n1, n2⟩, n3, n4⟩ := hni
 apply d_do; exact (Aa rfl); exact rfl; exact noRd rfl; decide +kernel; exact rfl; rotate_left
 refine AG (C' := [.sl A1 r.ch[i].key.length kc ko, .sl A2 r.ch[i].val.length vc vo, .b r.ch[i].gone]) rfl rfl hne h3 (Io rfl) rfl ⟨_, rfl, ?_⟩
 try (case hok => exact rdOk_c)
 apply d_do; exact (Aa rfl); exact rfl; exact noRd rfl; decide +kernel; exact rfl; rotate_left
 refine AG (C' := [.sl A1' r.ch[i].key.length kc' ko', .sl A2' r.ch[i].val.length vc' vo', .b r.ch[i].gone]) rfl rfl hne' h3' (Io rfl) rfl ⟨_, rfl, ?_⟩
 try (case hok => exact Bf (by decide +kernel))
 try (case hok => exact rdOk_c)
 refine wo ?_
 apply wm; iterate 5 exact rfl
 refine m_neqb rfl rfl rfl
 rw [beq_self_eq_true]
 refine wo ?_
 refine AY (BH rfl rfl rfl) rfl rfl rfl rfl (fun hp hs => same_d hs.ok (hk1.give0 hs) (hk1'.give0 hs) (by omega)) ?_
 refine wo ?_
 refine AY (BH rfl rfl rfl) rfl rfl rfl rfl (fun hp hs => same_d hs.ok (hk2.give0 hs) (hk2'.give0 hs) (by omega)) ?_
 refine wo ?_
 exact ⟨rfl, i + 1, g, by omega, ⟨rfl, rfl, rfl, trivial⟩, fun hp h => h.le⟩
/- Jsf: the statement's Copy and whole. By this project. -/
def markS : List UInt8 := [109, 97, 114, 107]
abbrev markC (bm : Nat) : List V := [.sl (some (bm, 0)) 4 4 false, .sl none 0 0 false, .b false]
def WhR (B : Bs) (c : Chg) (v : List V) : Prop := ∃ k o1 v' o2, v = [.sl (some (k, 0)) c.key.length (c.key.length + 3) o1, .sl (some (v', 0)) c.val.length (c.val.length + 3) o2, .b c.gone] ∧ RB B (some (k, 0)) ((c.key ++ mk3).map byV) ∧ RB B (some (v', 0)) ((c.val ++ mk3).map byV)
def WhRs (B : Bs) : List Chg → List (List V) → Prop
 | [], vs => vs = []
 | c :: r, vs => ∃ v ws, vs = v :: ws ∧ WhR B c v ∧ WhRs B r ws
theorem rb_mk3 {B : Bs} {A : Option (Nat × Nat)} {xs : List UInt8} (h : RB B A ((xs ++ mk3).map byV)) : RB B A (xs.map byV) := by
 have := h.take xs.length
 rwa [List.map_append, List.take_append_of_le_length (by simp), Ip (by simp)] at this
theorem WhR.chg {B : Bs} {c : Chg} {v : List V} (h : WhR B c v) : ChgR B c v := by
 obtain ⟨k, o1, v', o2, rfl, h1, h2⟩ := h
 exact ⟨_, _, _, _, _, _, rfl, rb_mk3 h1, rb_mk3 h2⟩
theorem whRs_chgs {B : Bs} : ∀ {l : List Chg} {vs : List (List V)}, WhRs B l vs → Fq B l vs
 | [], vs, h => h
 | t :: r, vs, h => by
  obtain ⟨v, ws, h0, h1, h2⟩ := h
  exact ⟨v, ws, h0, h1.chg, whRs_chgs h2⟩
theorem whRs_app {B : Bs} : ∀ {l r : List Chg} {vs ws : List (List V)}, WhRs B l vs → WhRs B r ws → WhRs B (l ++ r) (vs ++ ws)
 | [], r, vs, ws, h, k => by rw [WhRs] at h; subst h; exact k
 | t :: l, r, vs, ws, h, k => by
  obtain ⟨v, us, rfl, h1, h2⟩ := h
  exact ⟨v, us ++ ws, rfl, h1, whRs_app h2 k⟩
theorem whR_mono {B B' : Bs} (hm : ∀ {A : Option (Nat × Nat)} {cs : List V}, RB B A cs → RB B' A cs) {c : Chg} {v : List V} (h : WhR B c v) : WhR B' c v := by
 obtain ⟨k, o1, v', o2, rfl, h1, h2⟩ := h
 exact ⟨k, o1, v', o2, rfl, hm h1, hm h2⟩
theorem whRs_mono {B B' : Bs} (hm : ∀ {A : Option (Nat × Nat)} {cs : List V}, RB B A cs → RB B' A cs) : ∀ {l : List Chg} {vs : List (List V)}, WhRs B l vs → WhRs B' l vs
 | [], vs, h => h
 | t :: r, vs, h => by
  obtain ⟨v, ws, h0, h1, h2⟩ := h
  exact ⟨v, ws, h0, whR_mono hm h1, whRs_mono hm h2⟩
def SeenW (X : HV) (l : List Chg) (us : List (List V)) : Prop := ∀ (B : Bs) (hp : Hp) (Lt Lr : HV), SV B hp (Lt ++ Lr) → (∀ p ∈ X, p ∈ Lr) → WhRs ⟨hp, hnds Lt⟩ l us
theorem rb_mem {B : Bs} {hp : Hp} {Lt Lr : HV} {b : Nat} {C cs : List V} {E : TypeId} {op : Option Nat} {mk : Bool} (hs : SV B hp (Lt ++ Lr)) (h : (some b, VO.cells C E op mk) ∈ Lr) (hc : C.take cs.length = cs) : RB ⟨hp, hnds Lt⟩ (some (b, 0)) cs := by
 obtain ⟨j, hj⟩ := List.getElem?_of_mem h
 exact ES hs hj (by rw [List.drop_zero]; exact hc)
def CopX (N : HV) (r : Rec) (w : List V) : Prop := RecOk r ∧ ∃ bl us bm X, w = recC r (.sl (some (bl, 0)) r.ch.length (r.ch.length + 1) false) ∧ N = (some bl, Am (us.flatten ++ markC bm) 87) :: (some bm, .cells (markS.map byV) 5 none true) :: X ∧ SeenW X r.ch us
def CopR (B : Bs) (r : Rec) (w : List V) : Prop := RecOk r ∧ ∃ bl us bm, w = recC r (.sl (some (bl, 0)) r.ch.length (r.ch.length + 1) false) ∧ RB B (some (bl, 0)) (us.flatten ++ markC bm) ∧ RB B (some (bm, 0)) (markS.map byV) ∧ WhRs B r.ch us
theorem CopX.see {N : HV} {r : Rec} {w : List V} (h : CopX N r w) {B : Bs} {hp : Hp} {Lt Lr : HV} (hs : SV B hp (Lt ++ Lr)) (hm : ∀ p ∈ N, p ∈ Lr) : CopR ⟨hp, hnds Lt⟩ r w := by
 obtain ⟨h0, bl, us, bm, X, h1, rfl, h3⟩ := h
 exact ⟨h0, bl, us, bm, h1, rb_mem hs (hm _ List.mem_cons_self) (Ip (Nat.le_refl _)), rb_mem hs (hm _ (List.mem_cons_of_mem _ List.mem_cons_self)) (Ip (Nat.le_refl _)), h3 B hp Lt Lr hs fun p hp => hm p (List.mem_cons_of_mem _ (List.mem_cons_of_mem _ hp))⟩
theorem CopR.rec {B : Bs} {r : Rec} {w : List V} (h : CopR B r w) : RecR B r w := by
 obtain ⟨h0, bl, us, bm, h1, h2, h3, h4⟩ := h
 refine ⟨h0, some (bl, 0), r.ch.length + 1, false, us, h1, ?_, whRs_chgs h4⟩
 have := h2.take us.flatten.length
 rwa [List.take_append_of_le_length (Nat.le_refl _), Ip (Nat.le_refl _)] at this
theorem CopR.mono {B B' : Bs} (hm : ∀ {A : Option (Nat × Nat)} {cs : List V}, RB B A cs → RB B' A cs) {r : Rec} {w : List V} (h : CopR B r w) : CopR B' r w := by
 obtain ⟨h0, bl, us, bm, h1, h2, h3, h4⟩ := h
 exact ⟨h0, bl, us, bm, h1, hm h2, hm h3, whRs_mono hm h4⟩
theorem GF {r : Rec} {s s' : V} (h : RecOk r) : (recC r s).set (0 + 67) s' = recC r s' := by
 simp only [recC, Nat.zero_add, List.set_cons_succ]
 rw [List.set_append_right _ _ (by simp [h.prev]), List.length_map, h.prev, List.set_append_right _ _ (by simp [h.root]), List.length_map, h.root]
 rfl
theorem over_row {us : List (List V)} {rest vi : List V} {k n : Nat} (hn : vi.length = n) (hl : us.flatten.length = k) (hr : n ≤ rest.length) : Cg (us.flatten ++ rest) k vi = (us ++ [vi]).flatten ++ rest.drop n := by
 subst hn
 unfold Cg
 rw [← hl, List.take_append_of_le_length (Nat.le_refl _), Ip (Nat.le_refl _), List.drop_append, List.drop_of_length_le (by omega), Nat.add_sub_cancel_left, B5, List.nil_append]
theorem chg_bytes : (tiV vC 87).map (·.bytes) = some 56 := by kernel_rfl
theorem chg_grow {n : Nat} (h : n * 56 ≤ 140737488355328) : ∃ te, tiV kxD.C 87 = some te ∧ growB (n + 1) te.bytes = true := by
 obtain ⟨te, h1, h2⟩ := Option.map_eq_some_iff.1 chg_bytes
 refine ⟨te, h1, ?_⟩
 rw [h2]
 unfold growB
 simp only [Bool.and_eq_true]
 exact ⟨⟨G9 (by omega), G9 (by omega)⟩, rfl⟩
set_option maxHeartbeats 16000000 in
theorem copy_d {r : Rec} {v : List V} {hp : Hp} (ho : OkH hp) (hr : RecR ⟨hp, []⟩ r v) :
  Fn kxD 8 [.agg v] hp [] fun r' N => ∃ u, r' = .v u ∧ ∃ w, u = .agg w ∧ CopX N r w := by
 obtain ⟨hok, A, c, o, vs, rfl, hA, hvs⟩ := hr
 have hC : ∀ {s : V}, (recC r s).length = 68 := Dg hok
 have hrl := hok.len
 have hch : (recC r (.sl A r.ch.length c o))[0 + 67]? = some (.sl A r.ch.length c o) := by rw [Nat.zero_add]; exact F7 hok
 have hne : ∀ {s : V}, recC r s ≠ [] := fun e => by unfold recC at e; simp at e
 refine Fn.dropC ?_
 refine Au (T := []) ho.sv (fun _ => rfl) (fn := Tryz.f8) (by kernel_rfl) rfl rfl ?_
 refine wo ?_
 apply p_op; exact (Aa rfl); iterate 4 exact rfl
 refine Br rfl rfl fun bx => ⟨_, rfl, ?_⟩
 apply p_op; exact (Aa rfl); iterate 4 exact rfl
 refine As rfl fun bo => ⟨_, rfl, ?_⟩
 refine wo ?_
 refine zX (Bi rfl hch) ?_
 refine wo ?_
 apply p_op; exact (Aa rfl); iterate 4 exact rfl
 refine e_mksn (s := 3) (m := 0) (c := r.ch.length + 1) rfl rfl rfl (Nat.zero_le _) (chg_grow hrl) rfl fun bl C0 hC0 => ⟨_, rfl, ?_⟩
 refine wo ?_
 iterate 4 ((try refine BM ?_); refine wo ?_)
 refine Bq (ι := Nat × HV × List (List V) × List V) (fun s => [(4, .i .i64 (s.1 : Nat)), (3, .sl (some (bl, 0)) s.1 (r.ch.length + 1) false), (2, .p (some (bo, 0))), (1, .p (some (bx, 0)))]) (fun s => (some bl, Am (s.2.2.1.flatten ++ s.2.2.2) 87) :: (some bo, Am [.i .i64 0, .i .i64 0, .i .i64 0, byV 0, byV 0, byV 0, byV 0, byV 0, byV 0, byV 0, byV 0, byV 0, byV 0, byV 0, byV 0, byV 0, byV 0, byV 0, byV 0, byV 0, byV 0, byV 0, byV 0, byV 0, byV 0, byV 0, byV 0, byV 0, byV 0, byV 0, byV 0, byV 0, byV 0, byV 0, byV 0, byV 0, byV 0, byV 0, byV 0, byV 0, byV 0, byV 0, byV 0, byV 0, byV 0, byV 0, byV 0, byV 0, byV 0, byV 0, byV 0, byV 0, byV 0, byV 0, byV 0, byV 0, byV 0, byV 0, byV 0, byV 0, byV 0, byV 0, byV 0, byV 0, byV 0, byV 0, byV 0, .sl none 0 0 false] 26) :: (some bx, Am (recC r (.sl A r.ch.length c o)) 26) :: s.2.1) (fun s => s.1 ≤ r.ch.length ∧ s.2.2.1.flatten.length = s.1 * 3 ∧ s.2.2.2.length = (r.ch.length + 1 - s.1) * 3 ∧ SeenW s.2.1 (r.ch.take s.1) s.2.2.1) (fun s => r.ch.length - s.1) (0, [], [], C0) ⟨Nat.zero_le _, rfl, hC0, fun _ _ _ _ _ _ => rfl⟩ ⟨rfl, rfl, rfl, rfl, trivial⟩ (fun hp h => h) ?_
 intro ⟨i, X, us, rest⟩ ⟨hi, hul, hrest, hX⟩
 dsimp only at hi hul hrest hX ⊢
 refine wo ?_
 refine zX (Bi rfl hch) ?_
 refine wo ?_
 by_cases g : i < r.ch.length
 ·obtain ⟨b, oa, vi, rfl, hvi, hti, h3, hne3⟩ := ch_at hA hvs g
  obtain ⟨A1, kc, ko, A2, vc, vo, rfl, hk1, hk2⟩ := hti
  have hkv := hok.kv _ (List.getElem_mem g)
  apply wm; iterate 5 exact rfl
  refine Af (v := .b true) rfl rfl (AL (by omega))
  refine wo ?_
  refine zX (Bi rfl hch) ?_
  refine wo ?_
  apply wn; iterate 5 exact rfl
  refine CO rfl rfl g
  apply wm; iterate 5 exact rfl
  refine BT (j := i * 3) (s := 2) rfl hA.1 hA.2 rfl hvi h3
  apply p_op; exact (Aa rfl); iterate 4 exact rfl
  refine As rfl fun bi => ⟨_, rfl, ?_⟩
  apply p_do; exact (Aa rfl); exact rfl; exact rfl
  refine AG (C' := [.sl A1 r.ch[i].key.length kc ko, .sl A2 r.ch[i].val.length vc vo, .b r.ch[i].gone]) rfl rfl hne3 h3 (Io rfl) rfl ⟨_, rfl, ?_⟩
  refine wo ?_
  apply D2 []; exact (Aa rfl); decide +kernel; (iterate 4 exact rfl)
  try (case hok => exact A9)
  case hC => exact (fun hp hs ht => roomy01_d hs.ok (hk1.give0 hs) hkv.1)
  rintro u1 N1 ⟨k1, o1, oo1, rfl, rfl⟩
  refine wo ?_
  apply D2 []; exact (Aa rfl); decide +kernel; (iterate 4 exact rfl)
  try (case hok => exact A9)
  case hC => exact (fun hp hs ht => roomy01_d hs.ok (hk2.give0 hs) hkv.2)
  rintro u2 N2 ⟨k2, o2, oo2, rfl, rfl⟩
  refine wo ?_
  apply dn; iterate 5 exact rfl
  refine Av (C := [.sl (some (k1, 0)) r.ch[i].key.length (r.ch[i].key.length + 3) o1, .sl (some (k2, 0)) r.ch[i].val.length (r.ch[i].val.length + 3) o2, .b r.ch[i].gone]) (.cons rfl rfl rfl rfl (Io rfl) (.cons rfl rfl rfl rfl (Io rfl) (.cons rfl rfl rfl rfl (Io rfl) .nil))) rfl
  apply d_op; exact (Aa rfl); exact rfl; exact noRd rfl; decide +kernel; (iterate 3 exact rfl); rotate_left
  refine Fl (C := [.sl (some (k1, 0)) r.ch[i].key.length (r.ch[i].key.length + 3) o1, .sl (some (k2, 0)) r.ch[i].val.length (r.ch[i].val.length + 3) o2, .b r.ch[i].gone]) (n := 1) (sz := 3) rfl rfl (by decide) (.cons rfl rfl rfl .nil) rfl rfl fun b3 => ⟨_, rfl, ?_⟩
  try (case hok => exact A9)
  apply d_op; exact (Aa rfl); exact rfl; exact noRd rfl; decide +kernel; (iterate 3 exact rfl); rotate_left
  refine e_appRn (n := 1) (sz := 2) (ds := [.sl (some (k1, 0)) r.ch[i].key.length (r.ch[i].key.length + 3) o1, .sl (some (k2, 0)) r.ch[i].val.length (r.ch[i].val.length + 3) o2, .b r.ch[i].gone]) rfl rfl (Bw (k := 3) rfl) rfl (by decide) (by omega) (by simp only [List.length_append, List.length_cons, List.length_nil]; omega) (over_row (n := 3) rfl hul (by omega)) ⟨_, rfl, ?_⟩
  try (case hok => exact Bf (by decide +kernel))
  refine wo ?_
  refine ⟨rfl, (i + 1, (some k2, .cells ((r.ch[i].val ++ mk3).map byV) 5 oo2 false) :: (some k1, .cells ((r.ch[i].key ++ mk3).map byV) 5 oo1 false) :: X, us ++ [[.sl (some (k1, 0)) r.ch[i].key.length (r.ch[i].key.length + 3) o1, .sl (some (k2, 0)) r.ch[i].val.length (r.ch[i].val.length + 3) o2, .b r.ch[i].gone]], rest.drop 3), ⟨g, ?_, ?_, ?_⟩, by dsimp only; omega, ⟨rfl, rfl, rfl, rfl, trivial⟩, fun hp h => h.le⟩
  ·rw [B5, List.length_append, hul]
   simp only [List.length_cons, List.length_nil]
   omega
  ·rw [List.length_drop, hrest]
   dsimp only
   omega
  ·intro B hp Lt Lr hs hm
   rw [List.take_succ_eq_append_getElem g]
   refine whRs_app (hX B hp Lt Lr hs fun p hp => hm p (List.mem_cons_of_mem _ (List.mem_cons_of_mem _ hp))) ⟨_, [], rfl, ⟨k1, o1, k2, o2, rfl, ?_, ?_⟩, rfl⟩
   ·exact rb_mem hs (hm _ (List.mem_cons_of_mem _ List.mem_cons_self)) (Ip (Nat.le_refl _))
   ·exact rb_mem hs (hm _ List.mem_cons_self) (Ip (Nat.le_refl _))
 apply wm; iterate 5 exact rfl
 refine Af (v := .b false) rfl rfl (AF (by omega))
 refine wo ?_
 refine Bd ?_
 obtain rfl : i = r.ch.length := by omega
 rw [List.take_length] at hX
 refine wo ?_
 apply p_op; exact (Aa rfl); iterate 4 exact rfl
 refine e_bs (C := markS.map byV) rfl rfl (.cons rfl rfl (.cons rfl rfl (.cons rfl rfl (.cons rfl rfl .nil)))) rfl fun bm => ⟨_, rfl, ?_⟩
 apply p_op; exact (Aa rfl); iterate 4 exact rfl
 refine e_share rfl ⟨_, rfl, ?_⟩
 apply wn; iterate 5 exact rfl
 refine Av (C := markC bm) (.cons rfl rfl rfl rfl (Io rfl) .nil) rfl
 apply p_op; exact (Aa rfl); iterate 4 exact rfl
 refine Fl (C := markC bm) (n := 1) (sz := 3) rfl rfl (by decide) (.cons rfl rfl rfl .nil) rfl rfl fun b3 => ⟨_, rfl, ?_⟩
 apply p_op; exact (Aa rfl); iterate 4 exact rfl
 refine e_appRn (n := 1) (sz := 2) (ds := markC bm) rfl rfl (Bw (k := 3) rfl) rfl (by decide) (by omega) (by simp only [List.length_append, List.length_cons, List.length_nil]; omega) (over_row (n := 3) rfl hul (by omega)) ⟨_, rfl, ?_⟩
 have hr0 : rest.drop 3 = [] := List.drop_of_length_le (by omega)
 rw [hr0, List.append_nil, B5]
 refine wo ?_
 refine zX (m_sl0 rfl Cj (BR rfl) (by omega)) ?_
 refine wo ?_
 apply p_do; exact (Aa rfl); exact rfl; exact rfl
 refine e_st (C' := recC r (.sl (some (bl, 0)) r.ch.length (r.ch.length + 1) false)) rfl rfl rfl (by rw [hC]; decide) (GF hok) ⟨_, rfl, ?_⟩
 refine wo ?_
 refine zX (AO (s := 67) (cs := recC r (.sl (some (bl, 0)) r.ch.length (r.ch.length + 1) false)) rfl (by rw [List.drop_zero]; exact Ip (by rw [hC]; exact Nat.le_refl _)) hC) ?_
 apply p_do; exact (Aa rfl); exact rfl; exact rfl
 refine AG (C' := recC r (.sl (some (bl, 0)) r.ch.length (r.ch.length + 1) false)) rfl rfl hne hC (Io rfl) (AC (by rw [hC]; rfl)) ⟨_, rfl, ?_⟩
 refine wo ?_
 exact Ay (Ag (AR (AB rfl hC)) ⟨(some bl, Am (us.flatten ++ markC bm) 87) :: (some bm, .cells (markS.map byV) 5 none true) :: X, cle, _, rfl, _, rfl, hok, bl, us, bm, X, rfl, rfl, hX⟩)
theorem outMem {L M r : HV} [k : OutM L M r] : ∀ p ∈ M, p ∈ L := fun p hp => k.h.mem_iff.2 (List.mem_append_left _ hp)
/- Dr5: a new base within a function; an item's number and hash. By this project. -/
theorem w_base {K : Kx} {nt : Nat} {hp0 : Bs} {l : VL} {df : DL} {L : HV} {Q : WQ} {c : Code} (Lt Lr : HV) (hL : ∀ hp, SV hp0 hp L → SV hp0 hp (Lt ++ Lr)) (h : ∀ hp, SV hp0 hp (Lt ++ Lr) → WG K nt ⟨hp, hnds Lt⟩ c l df Lt (fun e l' df' L' => Q e l' df' (L' ++ Lr))) : WG K nt hp0 c l df L Q := by
 unfold WG at h ⊢
 intro fr hp hf hs
 have hT := CI Lt
 have hs' := hL hp hs
 obtain ⟨e, fr', df', hp', l', L', h1, h2, h3, h4, h5⟩ := h hp hs' fr hp hf (hs'.give fun i b o => mem_hnds i b o)
 exact ⟨e, fr', df', hp', l', L' ++ Lr, h1, h2, hs'.then h3 hT, h4.mono (hs'.headL.ownT hT), h5⟩
def itB : It → List UInt8
 | .str bs => bs
 | .list _ => []
def itL : It → List It
 | .str _ => []
 | .list l => l
def isL : It → Bool
 | .str _ => false
 | .list _ => true
theorem Eh {P : Option (Nat × Nat) → List V → Prop} (h0 : P none []) {t : It} {v : List V} (h : ItP P t v) : ∃ A c o A' c' o' vs, v = [.b (isL t), .sl A (itB t).length c o, .sl A' (itL t).length c' o'] ∧ P A ((itB t).map byV) ∧ P A' vs.flatten ∧ ItPs P (itL t) vs := by
 cases t with
 | str bs =>
  rw [ItP] at h
  obtain ⟨A, c, o, rfl, h⟩ := h
  exact ⟨A, c, o, none, 0, false, [], rfl, h, h0, by rw [itL, ItPs]⟩
 | list l =>
  rw [ItP] at h
  obtain ⟨A, c, o, vs, rfl, h, k⟩ := h
  exact ⟨none, 0, false, A, c, o, vs, rfl, h0, h, k⟩
theorem itP_len {P : Option (Nat × Nat) → List V → Prop} {t : It} {v : List V} (h : ItP P t v) : v.length = 3 := by
 cases t with
 | str bs => rw [ItP] at h; obtain ⟨A, c, o, rfl, _⟩ := h; rfl
 | list l => rw [ItP] at h; obtain ⟨A, c, o, vs, rfl, _⟩ := h; rfl
theorem itPs_rows {P : Option (Nat × Nat) → List V → Prop} : ∀ {l : List It} {vs : List (List V)}, ItPs P l vs → ∀ x ∈ vs, x.length = 3
 | [], vs, h, x, hx => by rw [ItPs] at h; subst h; simp at hx
 | t :: r, vs, h, x, hx => by
  rw [ItPs] at h
  obtain ⟨v, ws, rfl, h1, h2⟩ := h
  rcases List.mem_cons.1 hx with rfl | hx
  ·exact itP_len h1
  ·exact itPs_rows h2 x hx
theorem itPs_at {P : Option (Nat × Nat) → List V → Prop} : ∀ {l : List It} {vs : List (List V)} {i : Nat} {t : It}, ItPs P l vs → l[i]? = some t → ∃ v, vs[i]? = some v ∧ ItP P t v
 | [], _, _, _, _, hi => by simp at hi
 | x :: r, vs, 0, t, h, hi => by
  rw [ItPs] at h
  obtain ⟨v, ws, rfl, h1, _⟩ := h
  simp only [List.getElem?_cons_zero, Im] at hi
  subst hi
  exact ⟨v, rfl, h1⟩
 | x :: r, vs, i + 1, t, h, hi => by
  rw [ItPs] at h
  obtain ⟨v, ws, rfl, _, h2⟩ := h
  have := itPs_at (i := i) (t := t) h2 (by simpa using hi)
  simpa using this
theorem CT {P : Option (Nat × Nat) → List V → Prop} {l : List It} {vs : List (List V)} {i : Nat} {t : It} (h : ItPs P l vs) (hi : l[i]? = some t) : ∃ v, (vs.flatten.drop (i * 3)).take 3 = v ∧ v.length = 3 ∧ ItP P t v := by
 obtain ⟨v, h1, h2⟩ := itPs_at h hi
 exact ⟨v, Di (itPs_rows h) h1, itP_len h2, h2⟩
theorem GG {B : Bs} {A : Option (Nat × Nat)} {cs v : List V} {i : Nat} (h : RB B A cs) (hv : (cs.drop i).take 3 = v) (hl : v.length = 3) : ∃ b o, A = some (b, o) := by
 cases hq : cs with
 | nil => rw [hq] at hv; simp at hv; subst hv; simp at hl
 | cons x r =>
  rw [hq] at h
  exact Cw h.1.rv
theorem row_get {cs : List V} {i j : Nat} {x y z u : V} (h : (cs.drop i).take 3 = [x, y, z]) (hj : [x, y, z][j]? = some u) : cs[i + j]? = some u := by
 rw [← h, List.getElem?_take] at hj
 by_cases g : j < 3
 ·rw [if_pos g, List.getElem?_drop] at hj; exact hj
 ·rw [if_neg g] at hj; simp at hj
def intS : It → Option Nat
 | .list _ => none
 | .str bs => if 8 < bs.length then none else if 0 < bs.length ∧ bAt bs 0 = 0 then none else if 9223372036854775807 < beN 0 bs then none else some (beN 0 bs)
def intV (t : It) : Nat := (intS t).getD 0
def intE (t : It) : Nat := if (intS t).isSome = true then 0 else 52
theorem Ib {t : It} (h : intS t = none) : intV t = 0 ∧ intE t = 52 := by simp [intV, intE, h]
theorem Ia {t : It} {n : Nat} (h : intS t = some n) : intV t = n ∧ intE t = 0 := by simp [intV, intE, h]
set_option maxHeartbeats 16000000 in
theorem int_d {t : It} {v : List V} {hp : Hp} (ho : OkH hp) (ht : ItR ⟨hp, []⟩ t v) :
  Fn kxD 79 [.agg v] hp [] fun r _ => r = .v (.tup [.i .i64 (intV t : Nat), .i .i64 (intE t : Nat)]) := by
 cases t with
 | list l =>
  rw [ItR] at ht
  obtain ⟨A, c, o, vs, rfl, h1, h2⟩ := ht
  obtain ⟨e1, e2⟩ := Ib (t := .list l) rfl
  rw [e1, e2]
  refine Au (T := []) ho.sv (fun _ => rfl) (fn := Tryz.f79) (by kernel_rfl) rfl rfl ?_
  refine wo ?_
  apply p_op; exact (Aa rfl); iterate 4 exact rfl
  refine Br rfl rfl fun bx => ⟨_, rfl, ?_⟩
  refine wo ?_
  exact Ay (Ag (B8 (Ai rfl) (Ai rfl)) rfl)
 | str bs =>
  rw [ItR] at ht
  obtain ⟨A, c, o, rfl, hA⟩ := ht
  refine Au (T := []) ho.sv (fun _ => rfl) (fn := Tryz.f79) (by kernel_rfl) rfl rfl ?_
  refine wo ?_
  apply p_op; exact (Aa rfl); iterate 4 exact rfl
  refine Br rfl rfl fun bx => ⟨_, rfl, ?_⟩
  refine wOS0 ?_
  refine Gn [(3, .i .i64 0), (2, .i .i64 0), (1, .p (some (bx, 0)))] [(some bx, Am [.b false, .sl A bs.length c o, .sl none 0 0 false] 95)] (¬ 8 < bs.length ∧ ¬ (0 < bs.length ∧ bAt bs 0 = 0)) ?_ fun hB => ?_
  ·refine wo ?_
   apply wmg; iterate 7 exact rfl
   refine Af (v := .b false) rfl rfl (Bm (by omega))
   refine wo ?_
   by_cases g1 : 8 < bs.length
   ·obtain ⟨e1, e2⟩ := Ib (t := .str bs) (by rw [intS, if_pos g1])
    rw [e1, e2]
    apply wmg; iterate 7 exact rfl
    refine Af (v := .b true) rfl rfl (Cv (by omega))
    refine wo ?_
    exact Ay (Ag (B8 (Ai rfl) (Ai rfl)) rfl)
   apply wmg; iterate 7 exact rfl
   refine Af (v := .b false) rfl rfl (Bm (by omega))
   refine wo ?_
   by_cases g2 : 0 < bs.length
   ·obtain ⟨ba, oa, rfl⟩ := DT hA g2
    have hx := EM (b := bs) (p := 0) g2
    have hx4 := F3 bs 0
    apply wmg; iterate 7 exact rfl
    refine Af (v := .b true) rfl rfl (Cv (by omega))
    refine wo ?_
    apply wg; iterate 7 exact rfl
    refine p_ia rfl rfl g2
    apply wmg; iterate 7 exact rfl
    refine BO (j := 0) rfl hA.1 hA.2 rfl hx
    by_cases g3 : bAt bs 0 = 0
    ·obtain ⟨e1, e2⟩ := Ib (t := .str bs) (by rw [intS, if_neg g1, if_pos ⟨g2, g3⟩])
     rw [e1, e2]
     apply wmg; iterate 7 exact rfl
     refine Af (v := .b true) rfl rfl (Be (by omega))
     refine wo ?_
     exact Ay (Ag (B8 (Ai rfl) (Ai rfl)) rfl)
    apply wmg; iterate 7 exact rfl
    refine Af (v := .b false) rfl rfl (BW (by omega))
    refine wo ?_
    exact ⟨⟨g1, fun h => g3 h.2⟩, rfl, ⟨rfl, rfl, rfl, trivial⟩, fun hp h => h⟩
   apply wmg; iterate 7 exact rfl
   refine Af (v := .b false) rfl rfl (Bm (by omega))
   refine wo ?_
   exact ⟨⟨g1, fun h => g2 h.1⟩, rfl, ⟨rfl, rfl, rfl, trivial⟩, fun hp h => h⟩
  obtain ⟨g1, g2⟩ := hB
  refine wo ?_
  iterate 4 ((try refine BM ?_); refine wo ?_)
  refine Bq (ι := Nat) (fun i => [(37, .i .i64 (i : Nat)), (36, .i .i64 (bs.length : Nat)), (35, .sl A bs.length c o), (4, .i .u64 (beN 0 (bs.take i) : Nat)), (3, .i .i64 0), (2, .i .i64 0), (1, .p (some (bx, 0)))]) (fun i => [(some bx, Am [.b false, .sl A bs.length c o, .sl none 0 0 false] 95)]) (fun i => i ≤ bs.length) (fun i => bs.length - i) 0 (Nat.zero_le _) ⟨rfl, rfl, rfl, rfl, rfl, rfl, rfl, trivial⟩ (fun hp h => h) ?_
  intro i hi
  try dsimp only at hi ⊢
  refine wo ?_
  by_cases g3 : i < bs.length
  ·obtain ⟨ba, oa, rfl⟩ := DT hA (by omega)
   have hxi := EM (b := bs) (p := i) g3
   have hz4 := F3 bs i
   have hbd : beN 0 (bs.take i) < 72057594037927936 := by
    have h1 := beN_lt (bs.take i) 0
    have h2 : (bs.take i).length ≤ 7 := by rw [List.length_take]; omega
    have h3 : 256 ^ (bs.take i).length ≤ 256 ^ 7 := Nat.pow_le_pow_right (by decide) h2
    have h4 : (256 : Nat) ^ 7 = 72057594037927936 := rfl
    omega
   have hnx : beN 0 (bs.take (i + 1)) = beN 0 (bs.take i) * 256 + bAt bs i := by
    rw [List.take_succ_eq_append_getElem g3, beN_app, beN, beN, bAt_get g3]
   apply wm; iterate 5 exact rfl
   refine Af (v := .b true) rfl rfl (AL (by omega))
   refine wo ?_
   apply wn; iterate 5 exact rfl
   refine p_ia rfl rfl g3
   apply wm; iterate 5 exact rfl
   refine BO (j := i) rfl hA.1 hA.2 (by omega) hxi
   refine wo ?_
   apply wm; iterate 5 exact rfl
   refine m_shlU rfl rfl (by decide) (by omega)
   refine wo ?_
   apply wm; iterate 5 exact rfl
   refine m_convU rfl (by omega)
   apply wm; iterate 5 exact rfl
   refine m_orU rfl rfl (by omega) (by omega)
   rw [or_shl hz4, ← hnx]
   refine wo ?_
   exact ⟨rfl, i + 1, g3, by (try dsimp only); omega, ⟨rfl, rfl, rfl, rfl, rfl, rfl, rfl, trivial⟩, fun hp h => h⟩
  apply wm; iterate 5 exact rfl
  refine Af (v := .b false) rfl rfl (AF (by omega))
  refine wo ?_
  refine Bd ?_
  obtain rfl : i = bs.length := by omega
  rw [List.take_length]
  have hbd : beN 0 bs < 18446744073709551616 := by
   have h1 := beN_lt bs 0
   have h3 : 256 ^ bs.length ≤ 256 ^ 8 := Nat.pow_le_pow_right (by decide) (by omega)
   have h4 : (256 : Nat) ^ 8 = 18446744073709551616 := rfl
   omega
  refine wo ?_
  by_cases g4 : 9223372036854775807 < beN 0 bs
  ·obtain ⟨e1, e2⟩ := Ib (t := .str bs) (by rw [intS, if_neg g1, if_neg g2, if_pos g4])
   rw [e1, e2]
   apply wm; iterate 5 exact rfl
   refine Af (v := .b true) rfl rfl (Cv (by omega))
   refine wo ?_
   exact Ay (Ag (B8 (Ai rfl) (Ai rfl)) rfl)
  obtain ⟨e1, e2⟩ := Ia (t := .str bs) (by rw [intS, if_neg g1, if_neg g2, if_neg g4])
  rw [e1, e2]
  apply wm; iterate 5 exact rfl
  refine Af (v := .b false) rfl rfl (Bm (by omega))
  refine wo ?_
  apply wm; iterate 5 exact rfl
  refine m_convI rfl (by omega)
  refine wo ?_
  exact Ay (Ag (B8 (Ai rfl) (Ai rfl)) rfl)
def hshB (t : It) : List UInt8 := if (itB t).length = 32 then itB t else List.replicate 32 0
theorem Id (t : It) : (hshB t).length = 32 := by
 unfold hshB
 split
 ·assumption
 ·simp
set_option maxHeartbeats 8000000 in
theorem jhash_d {t : It} {v : List V} {hp : Hp} (ho : OkH hp) (ht : ItR ⟨hp, []⟩ t v) :
  Fn kxD 80 [.agg v] hp [] fun r _ => r = .v (.tup [.agg ((hshB t).map byV), .b (decide ((itB t).length = 32))]) := by
 obtain ⟨A, c, o, A', c', o', rfl, hA⟩ : ∃ A c o A' c' o', v = [.b (isL t), .sl A (itB t).length c o, .sl A' (itL t).length c' o'] ∧ RB ⟨hp, []⟩ A ((itB t).map byV) := by
  cases t with
  | str bs => rw [ItR] at ht; obtain ⟨A, c, o, rfl, h⟩ := ht; exact ⟨A, c, o, none, 0, false, rfl, h⟩
  | list l => rw [ItR] at ht; obtain ⟨A, c, o, vs, rfl, h, k⟩ := ht; exact ⟨none, 0, false, A, c, o, rfl, RB.nil⟩
 unfold hshB
 generalize itB t = bs at *
 refine Au (T := []) ho.sv (fun _ => rfl) (fn := Tryz.f80) (by kernel_rfl) rfl rfl ?_
 refine wo ?_
 apply p_op; exact (Aa rfl); iterate 4 exact rfl
 refine Br rfl rfl fun bx => ⟨_, rfl, ?_⟩
 apply p_op; exact (Aa rfl); iterate 4 exact rfl
 refine As rfl fun bo => ⟨_, rfl, ?_⟩
 refine wo ?_
 by_cases g : bs.length = 32
 ·obtain ⟨ba, oa, rfl⟩ := DT hA (by omega)
  rw [if_pos g, decide_eq_true g]
  have hn : bs.map byV ≠ [] := fun e => by have := congrArg List.length e; simp at this; rw [this] at g; simp at g
  have h32 : (bs.map byV).length = 32 := by rw [List.length_map, g]
  apply wm; iterate 5 exact rfl
  refine Af (v := .b false) rfl rfl (AK (by omega))
  refine wo ?_
  apply wn; iterate 5 exact rfl
  refine pv_s2a rfl rfl (by omega) (by decide)
  apply wm; iterate 5 exact rfl
  refine BT (j := 0) (s := 31) (vs := bs.map byV) rfl hA.1 hA.2 rfl (by rw [List.drop_zero]; exact Ip (Nat.le_of_eq h32)) h32
  apply p_do; exact (Aa rfl); exact rfl; exact rfl
  refine AG (C' := bs.map byV) rfl rfl hn h32 (Io rfl) (by exact AC h32) ⟨_, rfl, ?_⟩
  refine wo ?_
  exact Ay (Ag (B8 (AB rfl h32) (Ai rfl)) rfl)
 ·rw [if_neg g, decide_eq_false g]
  apply wm; iterate 5 exact rfl
  refine Af (v := .b true) rfl rfl (Cu (by omega))
  refine wo ?_
  apply wn; iterate 5 exact rfl
  refine DE
  apply p_do; exact (Aa rfl); exact rfl; exact rfl
  refine AG (C' := (List.replicate 32 (0 : UInt8)).map byV) rfl rfl (by simp) rfl (Io rfl) rfl ⟨_, rfl, ?_⟩
  refine wo ?_
  exact Ay (Ag (B8 (AB rfl rfl) (Ai rfl)) rfl)
/- Dr6: what a body seems to say. By this project. -/
mutual
def wt : It → Nat
 | .str bs => max 1 bs.length
 | .list l => 1 + wts l
def wts : List It → Nat
 | [] => 0
 | t :: r => wt t + wts r
end
theorem wts_app : ∀ (l r : List It), wts (l ++ r) = wts l + wts r
 | [], r => by rw [List.nil_append, wts, Nat.zero_add]
 | t :: l, r => by rw [List.cons_append, wts, wts, wts_app l r, Nat.add_assoc]
mutual
theorem itemS_wt : ∀ {f : Nat} {b : List UInt8} {p e d q : Nat} {t : It}, p ≤ e → DZ f b p e d = some (.ok (t, q)) → wt t + p ≤ q
 | 0, b, p, e, d, q, t, _, h => by simp [DZ] at h
 | f + 1, b, p, e, d, q, t, hp, h => by
  rw [DZ] at h
  split at h
  ·simp at h
  ·rename_i hpe
   split at h
   ·simp only [Im, Except.ok.injEq, Is] at h
    obtain ⟨rfl, rfl⟩ := h
    rw [wt]
    simp
    omega
   ·split at h
    ·simp at h
    ·split at h
     ·simp at h
     ·rename_i n q0 hl
      obtain ⟨l1, l2, _⟩ := lenS_ok (by omega) hl
      split at h
      ·simp at h
      ·split at h
       ·have := listS_wt (by omega) h
        rw [wts] at this
        omega
       ·split at h
        ·simp at h
        ·simp only [Im, Except.ok.injEq, Is] at h
         obtain ⟨rfl, rfl⟩ := h
         rw [wt, List.length_take]
         omega
theorem listS_wt : ∀ {f : Nat} {b : List UInt8} {p e d q : Nat} {acc : List It} {t : It}, p ≤ e → Eg f b p e d acc = some (.ok (t, q)) → wt t + p ≤ q + 1 + wts acc
 | 0, b, p, e, d, q, acc, t, _, h => by simp [Eg] at h
 | f + 1, b, p, e, d, q, acc, t, hp, h => by
  rw [Eg] at h
  split at h
  ·split at h
   ·simp at h
   ·simp at h
   ·rename_i t' q' hi
    have h1 := itemS_wt hp hi
    have h3 := listS_wt (GU hp hi).2 h
    rw [wts_app, wts, wts] at h3
    omega
  ·simp only [Im, Except.ok.injEq, Is] at h
   obtain ⟨rfl, rfl⟩ := h
   rw [wt]
   omega
end
theorem decS_wt {b : List UInt8} {t : It} (h : decS b = .ok t) : wt t ≤ 1048576 := by
 unfold decS at h
 split at h
 ·simp at h
 ·rename_i hl
  split at h
  ·rename_i t' q hi
   split at h
   ·simp at h
   ·have h1 := itemS_wt (Nat.zero_le _) hi
    have h2 := (GU (Nat.zero_le _) hi).2
    simp only [Except.ok.injEq] at h
    subst h
    omega
  ·simp at h
  ·simp at h
theorem wt_pos (t : It) : 1 ≤ wt t := by
 cases t with
 | str bs => rw [wt]; omega
 | list l => rw [wt]; omega
theorem wts_len : ∀ l : List It, l.length ≤ wts l
 | [] => Nat.zero_le _
 | t :: r => by
  rw [wts, List.length_cons]
  have := wts_len r
  have := wt_pos t
  omega
theorem wts_mem : ∀ {l : List It} {t : It}, t ∈ l → wt t ≤ wts l
 | x :: r, t, h => by
  rw [wts]
  rcases List.mem_cons.1 h with rfl | h
  ·omega
  ·have := wts_mem h; omega
theorem wt_itL (t : It) : wts (itL t) ≤ wt t := by
 cases t with
 | str bs => rw [itL, wts]; exact Nat.zero_le _
 | list l => rw [itL, wt]; omega
theorem wt_itB (t : It) : (itB t).length ≤ wt t := by
 cases t with
 | str bs => rw [itB, wt]; omega
 | list l => exact Nat.zero_le _
def chg1 (c : It) : Option Chg := match itL c with
 | [k] => some ⟨itB k, [], true⟩
 | [k, v] => some ⟨itB k, itB v, false⟩
 | _ => none
def chS : List It → Option (List Chg)
 | [] => some []
 | c :: r => match chg1 c, chS r with
  | some x, some y => some (x :: y)
  | _, _ => none
theorem chS_snoc : ∀ {l : List It} {a : List Chg} {c : It} {x : Chg}, chS l = some a → chg1 c = some x → chS (l ++ [c]) = some (a ++ [x])
 | [], a, c, x, h, k => by
  simp only [chS, Im] at h
  subst h
  simp only [List.nil_append, chS, k]
 | y :: r, a, c, x, h, k => by
  simp only [chS] at h
  simp only [List.cons_append, chS]
  cases h1 : chg1 y with
  | none => rw [h1] at h; simp at h
  | some z =>
   cases h2 : chS r with
   | none => rw [h1, h2] at h; simp at h
   | some w =>
    rw [h1, h2] at h
    simp only [Im] at h
    subst h
    rw [chS_snoc h2 k]
    rfl
theorem chS_none : ∀ {l : List It} {c : It}, c ∈ l → chg1 c = none → chS l = none
 | y :: r, c, h, k => by
  simp only [chS]
  rcases List.mem_cons.1 h with rfl | h
  ·rw [k]
  ·rw [chS_none h k]
   cases chg1 y <;> rfl
theorem chS_len : ∀ {l : List It} {a : List Chg}, chS l = some a → a.length = l.length ∧ ∀ c ∈ a, c.key.length ≤ wts l ∧ c.val.length ≤ wts l
 | [], a, h => by
  simp only [chS, Im] at h
  subst h
  exact ⟨rfl, fun c hc => by simp at hc⟩
 | y :: r, a, h => by
  simp only [chS] at h
  cases h1 : chg1 y with
  | none => rw [h1] at h; simp at h
  | some z =>
   cases h2 : chS r with
   | none => rw [h1, h2] at h; simp at h
   | some w =>
    rw [h1, h2] at h
    simp only [Im] at h
    subst h
    obtain ⟨k1, k2⟩ := chS_len h2
    refine ⟨by rw [List.length_cons, List.length_cons, k1], fun c hc => ?_⟩
    rw [wts]
    rcases List.mem_cons.1 hc with rfl | hc
    ·have hy := wt_itL y
     unfold chg1 at h1
     split at h1
     ·rename_i k hk
      rw [hk, wts, wts] at hy
      have := wt_itB k
      simp only [Im] at h1
      subst h1
      exact ⟨by dsimp only; omega, Nat.zero_le _⟩
     ·rename_i k v hk
      rw [hk, wts, wts, wts] at hy
      have := wt_itB k
      have := wt_itB v
      simp only [Im] at h1
      subst h1
      exact ⟨by dsimp only; omega, by dsimp only; omega⟩
     ·simp at h1
    ·have := k2 c hc
     omega
def recI (t : It) : Option Rec := match itL t with
 | [i0, i1, i2, i3, i4, i5] => if (intS i0).isSome = true ∧ (intS i1).isSome = true ∧ (intS i2).isSome = true ∧ (itB i3).length = 32 ∧ (itB i4).length = 32 then (chS (itL i5)).map fun l => ⟨(intV i0 : Nat), (intV i1 : Nat), (intV i2 : Nat), itB i3, itB i4, l⟩ else none
 | _ => none
def recS (b : List UInt8) : Option Rec := match decS b with
 | .ok t => recI t
 | .error _ => none
theorem recI_six {t : It} (h : (itL t).length ≠ 6) : recI t = none := by
 unfold recI
 split
 ·rename_i hl
  rw [hl] at h
  exact absurd rfl h
 ·rfl
theorem recI_ok {t : It} {r : Rec} (ht : wt t ≤ 1048576) (h : recI t = some r) : RecOk r := by
 unfold recI at h
 split at h
 ·rename_i i0 i1 i2 i3 i4 i5 hl
  split at h
  ·rename_i hc
   obtain ⟨a, ha, rfl⟩ := Option.map_eq_some_iff.1 h
   obtain ⟨k1, k2⟩ := chS_len ha
   have h1 := wt_itL t
   have h2 : wt i5 ≤ wts (itL t) := wts_mem (by rw [hl]; simp)
   have h3 := wt_itL i5
   have h4 := wts_len (itL i5)
   exact ⟨hc.2.2.2.1, hc.2.2.2.2, by dsimp only; omega, fun c hc => by have := k2 c hc; omega⟩
  ·simp at h
 ·simp at h
def ChgX (X : HV) (c : Chg) (v : List V) : Prop := ∃ A kc ko A' vc vo, v = [.sl A c.key.length kc ko, .sl A' c.val.length vc vo, .b c.gone] ∧ Sn X A (c.key.map byV) ∧ Sn X A' (c.val.map byV)
def ChgXs (X : HV) : List Chg → List (List V) → Prop
 | [], vs => vs = []
 | c :: r, vs => ∃ v ws, vs = v :: ws ∧ ChgX X c v ∧ ChgXs X r ws
theorem Hx {X : HV} {c : Chg} {v : List V} (k : ChgX X c v) : ∀ {l : List Chg} {vs : List (List V)}, ChgXs X l vs → ChgXs X (l ++ [c]) (vs ++ [v])
 | [], vs, h => by
  rw [ChgXs] at h
  subst h
  exact ⟨v, [], rfl, k, rfl⟩
 | x :: r, vs, h => by
  obtain ⟨w, ws, rfl, h1, h2⟩ := h
  exact ⟨w, ws ++ [v], rfl, h1, Hx k h2⟩
theorem Hy {X Y : HV} (hx : ∀ p ∈ X, p ∈ Y) : ∀ {l : List Chg} {vs : List (List V)}, ChgXs X l vs → ChgXs Y l vs
 | [], vs, h => h
 | x :: r, vs, h => by
  obtain ⟨w, ws, rfl, ⟨A, kc, ko, A', vc, vo, h0, h1, h2⟩, h3⟩ := h
  exact ⟨w, ws, rfl, ⟨A, kc, ko, A', vc, vo, h0, h1.mono hx, h2.mono hx⟩, Hy hx h3⟩
theorem chgXs_r {X : HV} {B : Bs} (hm : ∀ A cs, Sn X A cs → RB B A cs) : ∀ {l : List Chg} {vs : List (List V)}, ChgXs X l vs → Fq B l vs
 | [], vs, h => h
 | x :: r, vs, h => by
  obtain ⟨w, ws, rfl, ⟨A, kc, ko, A', vc, vo, h0, h1, h2⟩, h3⟩ := h
  exact ⟨w, ws, rfl, ⟨A, kc, ko, A', vc, vo, h0, hm _ _ h1, hm _ _ h2⟩, chgXs_r hm h3⟩
def RecX (X : HV) (r : Rec) (v : List V) : Prop := RecOk r ∧ ∃ A c o us, v = recC r (.sl A r.ch.length c o) ∧ Sn X A us.flatten ∧ ChgXs X r.ch us
theorem RecX.r {X : HV} {r : Rec} {v : List V} (h : RecX X r v) {B : Bs} {hp : Hp} {Lt L : HV} (hs : SV B hp (Lt ++ L)) (hx : ∀ p ∈ X, p ∈ L) : RecR ⟨hp, hnds Lt⟩ r v := by
 obtain ⟨h0, A, c, o, us, h1, h2, h3⟩ := h
 exact ⟨h0, A, c, o, us, h1, h2 _ _ _ _ hs hx, chgXs_r (fun A cs h => h _ _ _ _ hs hx) h3⟩
abbrev zR : Rec := ⟨0, 0, 0, List.replicate 32 0, List.replicate 32 0, []⟩
abbrev zRC : List V := recC zR (.sl none 0 0 false)
theorem rec_put {k n q : V} {p r : List V} (hp : p.length = 32) (hr : r.length = 32) : DC zRC [(0, [k]), (1, [n]), (2, [q]), (3, p), (35, r)] = k :: n :: q :: (p ++ (r ++ [.sl none 0 0 false])) := by
 have e1 : DC zRC [(0, [k]), (1, [n]), (2, [q])] = k :: n :: q :: zRC.drop 3 := rfl
 have e2 : DC zRC [(0, [k]), (1, [n]), (2, [q]), (3, p), (35, r)] = Cg (Cg (k :: n :: q :: zRC.drop 3) 3 p) 35 r := rfl
 have e3 : (zRC.drop 3).length = 65 := rfl
 have e4 : (zRC.drop 3).drop 64 = [.sl none 0 0 false] := rfl
 rw [e2]
 generalize zRC.drop 3 = z at e3 e4
 unfold Cg
 rw [hp, hr]
 simp only [List.take_succ_cons, List.take_zero, List.drop_succ_cons, List.cons_append, List.nil_append, Nat.reduceAdd]
 rw [List.take_append_of_le_length (by omega), Ip (by omega), List.drop_append, List.drop_of_length_le (by omega), List.nil_append, hp, List.drop_drop, e4, List.append_assoc]
/- Dr7: the record that a body seems to say, read. By this project. -/
set_option maxHeartbeats 64000000 in
theorem recof_d {A0 : Option (Nat × Nat)} {b : List UInt8} {c0 : Nat} {o0 : Bool} {hp : Hp} (ho : OkH hp) (hb : RB ⟨hp, []⟩ A0 (b.map byV)) (hc : b.length ≤ c0) :
  Fn kxD 51 [.sl A0 b.length c0 o0] hp [] fun r N => match recS b with
   | none => ∃ u, r = .v u ∧ u = .tup [.agg zRC, .b false]
   | some rc => ∃ u, r = .v u ∧ ∃ w, u = .tup [.agg w, .b true] ∧ RecX N rc w := by
 refine Fn.dropC ?_
 unfold recS
 refine Au (T := []) ho.sv (fun _ => rfl) (fn := Tryz.f51) (by kernel_rfl) rfl rfl ?_
 refine wo ?_
 apply p_op; exact (Aa rfl); iterate 4 exact rfl
 refine As rfl fun b2 => ⟨_, rfl, ?_⟩
 refine wo ?_
 cases hS : decS b with
 | error x =>
  have hx : x.2 ≠ 0 := by
   rw [decS_of] at hS
   cases hR : readS b with
   | error y =>
    rw [hR] at hS
    obtain rfl := Except.error.inj hS
    exact readS_err hR
   | ok tq =>
    rw [hR] at hS
    dsimp only at hS
    split at hS
    ·obtain rfl := Except.error.inj hS
     simp
    ·simp at hS
  have hC : ∀ {L : HV} {hp' : Hp}, SV ⟨hp, []⟩ hp' L → OkH hp' → Fn kxD 78 [.sl A0 b.length c0 o0] hp' [] fun r N => ∃ u, r = .v u ∧ u = .tup [.agg zI, .i .i64 (x.1 : Nat), .i .i64 (x.2 : Nat)] := fun hs ho => by
   have := decode_d (o := o0) ho (hb.give0 hs) hc
   rw [hS] at this
   exact this
  apply AU []; exact (Aa rfl); iterate 4 exact rfl
  case hC => exact (fun hp' hs ht => hC hs hs.ok)
  rintro u N rfl
  refine wo ?_
  apply p_op; exact (Aa rfl); iterate 4 exact rfl
  refine As rfl fun b4 => ⟨_, rfl, ?_⟩
  apply p_do; exact (Aa rfl); exact rfl; exact rfl
  refine AG (C' := zI) rfl rfl (by simp) rfl (Io rfl) rfl ⟨_, rfl, ?_⟩
  refine wo ?_
  apply wm; iterate 5 exact rfl
  refine Af (v := .b true) rfl rfl (Cu (by omega))
  refine wo ?_
  apply wn; iterate 5 exact rfl
  refine Av (C := zRC) .nil rfl
  apply p_do; exact (Aa rfl); exact rfl; exact rfl
  refine AG (C' := zRC) rfl rfl (by simp [recC]) rfl (Io rfl) rfl ⟨_, rfl, ?_⟩
  refine wo ?_
  exact Ay (Ag (B8 (AB rfl rfl) (Ai rfl)) ⟨[], cle, _, rfl, rfl⟩)
 | ok t =>
  have hwt := decS_wt hS
  have hC : ∀ {L : HV} {hp' : Hp}, SV ⟨hp, []⟩ hp' L → OkH hp' → Fn kxD 78 [.sl A0 b.length c0 o0] hp' [] fun r N => ∃ u, r = .v u ∧ ∃ a1 a2 a3, u = .tup [.agg [a1, a2, a3], .i .i64 0, .i .i64 0] ∧ ItX N t [a1, a2, a3] := fun hs ho => by
   have := decode_d (o := o0) ho (hb.give0 hs) hc
   rw [hS] at this
   exact this
  dsimp only
  apply AU []; exact (Aa rfl); iterate 4 exact rfl
  case hC => exact (fun hp' hs ht => hC hs hs.ok)
  rintro u N ⟨a1, a2, a3, rfl, hX⟩
  obtain ⟨A1, c1, o1, A, c, o, vs, hv, hP1, hP, hvs⟩ := Eh Sn.nil hX
  simp only [List.cons.injEq, and_true] at hv
  obtain ⟨rfl, rfl, rfl⟩ := hv
  refine wo ?_
  apply p_op; exact (Aa rfl); iterate 4 exact rfl
  refine As rfl fun b4 => ⟨_, rfl, ?_⟩
  apply p_do; exact (Aa rfl); exact rfl; exact rfl
  refine AG (C' := [.b (isL t), .sl A1 (itB t).length c1 o1, .sl A (itL t).length c o]) rfl rfl (by simp) rfl (Io rfl) rfl ⟨_, rfl, ?_⟩
  refine wOS0 ?_
  refine w_base [(some b4, Am [.b (isL t), .sl A1 (itB t).length c1 o1, .sl A (itL t).length c o] 95), (some b2, Am zRC 26)] N (fun hp h => h.perm (List.perm_append_comm.cons _)) fun hp1 hs1 => ?_
  have hB : ∀ B cs, Sn N B cs → RB ⟨hp1, hnds [(some b4, Am [.b (isL t), .sl A1 (itB t).length c1 o1, .sl A (itL t).length c o] 95), (some b2, Am zRC 26)]⟩ B cs := fun B cs h => h _ _ _ _ hs1 fun p hp => hp
  have hA := hB _ _ hP
  refine wo ?_
  apply wm; iterate 5 exact rfl
  refine Af (v := .b false) rfl rfl (AK (by omega))
  refine wo ?_
  by_cases g6 : (itL t).length = 6
  rotate_left
  ·rw [recI_six g6]
   apply wmg; iterate 7 exact rfl
   refine Af (v := .b true) rfl rfl (Cu (by omega))
   refine wo ?_
   apply wn; iterate 5 exact rfl
   refine Av (C := zRC) .nil rfl
   apply p_do; exact (Aa rfl); exact rfl; exact rfl
   refine AG (C' := zRC) rfl rfl (by simp [recC]) rfl (Io rfl) rfl ⟨_, rfl, ?_⟩
   refine wo ?_
   exact Ay (Ag (B8 (AB rfl rfl) (Ai rfl)) ⟨[], cle, _, rfl, rfl⟩)
  obtain ⟨i0, i1, i2, i3, i4, i5, hl⟩ : ∃ i0 i1 i2 i3 i4 i5, itL t = [i0, i1, i2, i3, i4, i5] := by
   match itL t, g6 with
   | [i0, i1, i2, i3, i4, i5], _ => exact ⟨i0, i1, i2, i3, i4, i5, rfl⟩
  have hrI : recI t = if (intS i0).isSome = true ∧ (intS i1).isSome = true ∧ (intS i2).isSome = true ∧ (itB i3).length = 32 ∧ (itB i4).length = 32 then (chS (itL i5)).map fun l => ⟨(intV i0 : Nat), (intV i1 : Nat), (intV i2 : Nat), itB i3, itB i4, l⟩ else none := by
   unfold recI
   rw [hl]
  obtain ⟨v0, d0, l0, P0⟩ := CT (i := 0) (t := i0) hvs (by rw [hl]; rfl)
  obtain ⟨v1, d1, l1, P1⟩ := CT (i := 1) (t := i1) hvs (by rw [hl]; rfl)
  obtain ⟨v2, d2, l2, P2⟩ := CT (i := 2) (t := i2) hvs (by rw [hl]; rfl)
  obtain ⟨v3, d3, l3, P3⟩ := CT (i := 3) (t := i3) hvs (by rw [hl]; rfl)
  obtain ⟨v4, d4, l4, P4⟩ := CT (i := 4) (t := i4) hvs (by rw [hl]; rfl)
  obtain ⟨v5, d5, l5, P5⟩ := CT (i := 5) (t := i5) hvs (by rw [hl]; rfl)
  obtain ⟨ba, oa, rfl⟩ := GG hA d0 l0
  have n3 : (hshB i3).map byV ≠ [] := fun e => by have := congrArg List.length e; rw [List.length_map, Id] at this; simp at this
  have n4 : (hshB i4).map byV ≠ [] := fun e => by have := congrArg List.length e; rw [List.length_map, Id] at this; simp at this
  have q3 : ((hshB i3).map byV).length = 32 := by rw [List.length_map, Id]
  have q4 : ((hshB i4).map byV).length = 32 := by rw [List.length_map, Id]
  apply wmg; iterate 7 exact rfl
  refine Af (v := .b false) rfl rfl (AK (by omega))
  refine wo ?_
  apply wn; iterate 5 exact rfl
  refine CO (i := 0) rfl rfl (by omega)
  apply wm; iterate 5 exact rfl
  refine BT (j := 0 * 3) (s := 2) rfl hA.1 hA.2 rfl d0 l0
  refine AY (Aa rfl) rfl rfl rfl rfl (fun hp' hs => int_d hs.ok (itP_r (fun A cs h => (hB A cs h).give0 hs) _ _ P0)) ?_
  refine wo ?_
  apply wn; iterate 5 exact rfl
  refine CO (i := 1) rfl rfl (by omega)
  apply wm; iterate 5 exact rfl
  refine BT (j := 1 * 3) (s := 2) rfl hA.1 hA.2 rfl d1 l1
  refine AY (Aa rfl) rfl rfl rfl rfl (fun hp' hs => int_d hs.ok (itP_r (fun A cs h => (hB A cs h).give0 hs) _ _ P1)) ?_
  refine wo ?_
  apply wn; iterate 5 exact rfl
  refine CO (i := 2) rfl rfl (by omega)
  apply wm; iterate 5 exact rfl
  refine BT (j := 2 * 3) (s := 2) rfl hA.1 hA.2 rfl d2 l2
  refine AY (Aa rfl) rfl rfl rfl rfl (fun hp' hs => int_d hs.ok (itP_r (fun A cs h => (hB A cs h).give0 hs) _ _ P2)) ?_
  refine wo ?_
  apply wn; iterate 5 exact rfl
  refine CO (i := 3) rfl rfl (by omega)
  apply wm; iterate 5 exact rfl
  refine BT (j := 3 * 3) (s := 2) rfl hA.1 hA.2 rfl d3 l3
  refine AY (Aa rfl) rfl rfl rfl rfl (fun hp' hs => jhash_d hs.ok (itP_r (fun A cs h => (hB A cs h).give0 hs) _ _ P3)) ?_
  refine wo ?_
  apply p_op; exact (Aa rfl); iterate 4 exact rfl
  refine As rfl fun b13 => ⟨_, rfl, ?_⟩
  apply p_do; exact (Aa rfl); exact rfl; exact rfl
  refine AG (C' := (hshB i3).map byV) rfl rfl n3 q3 (Io rfl) (by exact AC q3) ⟨_, rfl, ?_⟩
  refine wo ?_
  apply wn; iterate 5 exact rfl
  refine CO (i := 4) rfl rfl (by omega)
  apply wm; iterate 5 exact rfl
  refine BT (j := 4 * 3) (s := 2) rfl hA.1 hA.2 rfl d4 l4
  refine AY (Aa rfl) rfl rfl rfl rfl (fun hp' hs => jhash_d hs.ok (itP_r (fun A cs h => (hB A cs h).give0 hs) _ _ P4)) ?_
  refine wo ?_
  apply p_op; exact (Aa rfl); iterate 4 exact rfl
  refine As rfl fun b15 => ⟨_, rfl, ?_⟩
  apply p_do; exact (Aa rfl); exact rfl; exact rfl
  refine AG (C' := (hshB i4).map byV) rfl rfl n4 q4 (Io rfl) (by exact AC q4) ⟨_, rfl, ?_⟩
  refine wOS0 ?_
  refine Gn [(15, .p (some (b15, 0))), (13, .p (some (b13, 0))), (11, .i .i64 (intV i2 : Nat)), (9, .i .i64 (intV i1 : Nat)), (7, .i .i64 (intV i0 : Nat)), (4, .p (some (b4, 0))), (2, .p (some (b2, 0)))] [(some b15, Am ((hshB i4).map byV) 23), (some b13, Am ((hshB i3).map byV) 23), (some b4, Am [.b (isL t), .sl A1 (itB t).length c1 o1, .sl (some (ba, oa)) (itL t).length c o] 95), (some b2, Am zRC 26)] ((intS i0).isSome = true ∧ (intS i1).isSome = true ∧ (intS i2).isSome = true ∧ (itB i3).length = 32 ∧ (itB i4).length = 32) ?_ fun hK => ?_
  ·by_cases k0 : (intS i0).isSome = true
   rotate_left
   ·have e0 : intE i0 = 52 := if_neg k0
    rw [e0, hrI, if_neg (fun h => k0 h.1)]
    refine wo ?_
    apply wm; iterate 5 exact rfl
    refine Af (v := .b true) rfl rfl (Cu (by omega))
    refine wo ?_
    apply wn; iterate 5 exact rfl
    refine Av (C := zRC) .nil rfl
    apply p_do; exact (Aa rfl); exact rfl; exact rfl
    refine AG (C' := zRC) rfl rfl (by simp [recC]) rfl (Io rfl) rfl ⟨_, rfl, ?_⟩
    refine wo ?_
    exact Ay (Ag (B8 (AB rfl rfl) (Ai rfl)) ⟨[], cle, _, rfl, rfl⟩)
   have e0 : intE i0 = 0 := if_pos k0
   rw [e0]
   by_cases k1 : (intS i1).isSome = true
   rotate_left
   ·have e1 : intE i1 = 52 := if_neg k1
    rw [e1, hrI, if_neg (fun h => k1 h.2.1)]
    refine wo ?_
    apply wm; iterate 5 exact rfl
    refine Af (v := .b false) rfl rfl (AK (by omega))
    refine wo ?_
    apply wmg; iterate 7 exact rfl
    refine Af (v := .b true) rfl rfl (Cu (by omega))
    refine wo ?_
    apply wn; iterate 5 exact rfl
    refine Av (C := zRC) .nil rfl
    apply p_do; exact (Aa rfl); exact rfl; exact rfl
    refine AG (C' := zRC) rfl rfl (by simp [recC]) rfl (Io rfl) rfl ⟨_, rfl, ?_⟩
    refine wo ?_
    exact Ay (Ag (B8 (AB rfl rfl) (Ai rfl)) ⟨[], cle, _, rfl, rfl⟩)
   have e1 : intE i1 = 0 := if_pos k1
   rw [e1]
   by_cases k2 : (intS i2).isSome = true
   rotate_left
   ·have e2 : intE i2 = 52 := if_neg k2
    rw [e2, hrI, if_neg (fun h => k2 h.2.2.1)]
    refine wo ?_
    apply wm; iterate 5 exact rfl
    refine Af (v := .b false) rfl rfl (AK (by omega))
    refine wo ?_
    apply wmg; iterate 7 exact rfl
    refine Af (v := .b false) rfl rfl (AK (by omega))
    refine wo ?_
    apply wmg; iterate 7 exact rfl
    refine Af (v := .b true) rfl rfl (Cu (by omega))
    refine wo ?_
    apply wn; iterate 5 exact rfl
    refine Av (C := zRC) .nil rfl
    apply p_do; exact (Aa rfl); exact rfl; exact rfl
    refine AG (C' := zRC) rfl rfl (by simp [recC]) rfl (Io rfl) rfl ⟨_, rfl, ?_⟩
    refine wo ?_
    exact Ay (Ag (B8 (AB rfl rfl) (Ai rfl)) ⟨[], cle, _, rfl, rfl⟩)
   have e2 : intE i2 = 0 := if_pos k2
   rw [e2]
   by_cases k3 : (itB i3).length = 32
   rotate_left
   ·rw [decide_eq_false k3, hrI, if_neg (fun h => k3 h.2.2.2.1)]
    refine wo ?_
    apply wm; iterate 5 exact rfl
    refine Af (v := .b false) rfl rfl (AK (by omega))
    refine wo ?_
    apply wmg; iterate 7 exact rfl
    refine Af (v := .b false) rfl rfl (AK (by omega))
    refine wo ?_
    apply wmg; iterate 7 exact rfl
    refine Af (v := .b false) rfl rfl (AK (by omega))
    refine wo ?_
    apply wn; iterate 5 exact rfl
    refine Av (C := zRC) .nil rfl
    apply p_do; exact (Aa rfl); exact rfl; exact rfl
    refine AG (C' := zRC) rfl rfl (by simp [recC]) rfl (Io rfl) rfl ⟨_, rfl, ?_⟩
    refine wo ?_
    exact Ay (Ag (B8 (AB rfl rfl) (Ai rfl)) ⟨[], cle, _, rfl, rfl⟩)
   rw [decide_eq_true k3]
   by_cases k4 : (itB i4).length = 32
   rotate_left
   ·rw [decide_eq_false k4, hrI, if_neg (fun h => k4 h.2.2.2.2)]
    refine wo ?_
    apply wm; iterate 5 exact rfl
    refine Af (v := .b false) rfl rfl (AK (by omega))
    refine wo ?_
    apply wmg; iterate 7 exact rfl
    refine Af (v := .b false) rfl rfl (AK (by omega))
    refine wo ?_
    apply wmg; iterate 7 exact rfl
    refine Af (v := .b false) rfl rfl (AK (by omega))
    refine wo ?_
    apply wn; iterate 5 exact rfl
    refine Av (C := zRC) .nil rfl
    apply p_do; exact (Aa rfl); exact rfl; exact rfl
    refine AG (C' := zRC) rfl rfl (by simp [recC]) rfl (Io rfl) rfl ⟨_, rfl, ?_⟩
    refine wo ?_
    exact Ay (Ag (B8 (AB rfl rfl) (Ai rfl)) ⟨[], cle, _, rfl, rfl⟩)
   rw [decide_eq_true k4]
   refine wo ?_
   apply wm; iterate 5 exact rfl
   refine Af (v := .b false) rfl rfl (AK (by omega))
   refine wo ?_
   apply wmg; iterate 7 exact rfl
   refine Af (v := .b false) rfl rfl (AK (by omega))
   refine wo ?_
   apply wmg; iterate 7 exact rfl
   refine Af (v := .b false) rfl rfl (AK (by omega))
   refine wo ?_
   exact ⟨⟨k0, k1, k2, k3, k4⟩, rfl, ⟨rfl, rfl, rfl, rfl, rfl, rfl, rfl, trivial⟩, fun hp h => h⟩
  rw [if_pos hK] at hrI
  have s3 : hshB i3 = itB i3 := if_pos hK.2.2.2.1
  have s4 : hshB i4 = itB i4 := if_pos hK.2.2.2.2
  rw [s3] at q3 n3
  rw [s4] at q4 n4
  rw [s3, s4, hrI]
  obtain ⟨rc, hrc⟩ : ∃ rc : List Chg → Rec, rc = fun l => ⟨(intV i0 : Nat), (intV i1 : Nat), (intV i2 : Nat), itB i3, itB i4, l⟩ := ⟨_, rfl⟩
  have hrk : ∀ l s, recC (rc l) s = .i .i64 (intV i0 : Nat) :: .i .i64 (intV i1 : Nat) :: .i .i64 (intV i2 : Nat) :: ((itB i3).map byV ++ ((itB i4).map byV ++ [s])) := fun l s => by rw [hrc]; rfl
  have hrp : ∀ l, (rc l).prev.length = 32 ∧ (rc l).root.length = 32 := fun l => by rw [hrc]; exact ⟨hK.2.2.2.1, hK.2.2.2.2⟩
  have hr68 : ∀ s, (recC (rc []) s).length = 68 := fun s => by rw [hrk]; simp [hK.2.2.2.1, hK.2.2.2.2]
  have hrne : ∀ s, recC (rc []) s ≠ [] := fun s e => by rw [hrk] at e; simp at e
  have hrOk : RecOk (rc []) := ⟨(hrp _).1, (hrp _).2, by rw [hrc]; exact Nat.zero_le _, fun c hc => by rw [hrc] at hc; simp at hc⟩
  have hch : ∀ s, (recC (rc []) s)[0 + 67]? = some s := fun s => by rw [Nat.zero_add]; exact F7 hrOk
  obtain ⟨A5, c5, o5, A6, c6, o6, vs5, rfl, _, hP5, hvs5⟩ := Eh Sn.nil P5
  have hA6 := hB _ _ hP5
  have hx5 := row_get (j := 2) d5 rfl
  refine wo ?_
  refine zX (AO (s := 31) (cs := (itB i3).map byV) rfl (by rw [List.drop_zero]; exact Ip (Nat.le_of_eq q3)) q3) ?_
  refine zX (AO (s := 31) (cs := (itB i4).map byV) rfl (by rw [List.drop_zero]; exact Ip (Nat.le_of_eq q4)) q4) ?_
  apply wn; iterate 5 exact rfl
  refine Av (C := recC (rc []) (.sl none 0 0 false)) (.cons rfl rfl rfl rfl (Io rfl) (.cons rfl rfl rfl rfl (Io rfl) (.cons rfl rfl rfl rfl (Io rfl) (.cons rfl rfl rfl q3 (Io rfl) (.cons rfl rfl rfl q4 (Io rfl) .nil))))) ((rec_put q3 q4).trans (hrk _ _).symm)
  apply p_op; exact (Aa rfl); iterate 4 exact rfl
  refine As rfl fun b17 => ⟨_, rfl, ?_⟩
  apply p_do; exact (Aa rfl); exact rfl; exact rfl
  refine AG (C' := recC (rc []) (.sl none 0 0 false)) rfl rfl (hrne _) (hr68 _) (Io rfl) (by exact AC (hr68 _)) ⟨_, rfl, ?_⟩
  refine wo ?_
  iterate 4 ((try refine BM ?_); refine wo ?_)
  apply wn; iterate 5 exact rfl
  refine CO (i := 5) rfl rfl (by omega)
  refine wo ?_
  apply wm; iterate 5 exact rfl
  refine BO (j := 5 * 3 + 2) rfl hA.1 hA.2 rfl hx5
  refine wo ?_
  iterate 4 ((try refine BM ?_); refine wo ?_)
  refine Bq (ι := Nat × V × HV × List Chg × List (List V)) (fun s => [(106, .i .i64 (s.1 : Nat)), (105, .i .i64 ((itL i5).length : Nat)), (104, .sl A6 (itL i5).length c6 o6), (17, .p (some (b17, 0))), (2, .p (some (b2, 0)))]) (fun s => (some b17, Am (recC (rc []) s.2.1) 26) :: (some b2, Am zRC 26) :: s.2.2.1) (fun s => s.1 ≤ (itL i5).length ∧ chS ((itL i5).take s.1) = some s.2.2.2.1 ∧ s.2.2.2.1.length = s.1 ∧ RowG 87 3 s.1 s.2.2.2.2.flatten s.2.1 s.2.2.1 ∧ ChgXs N s.2.2.2.1 s.2.2.2.2) (fun s => (itL i5).length - s.1) (0, .sl none 0 0 false, [], [], []) ⟨Nat.zero_le _, rfl, rfl, .nil, rfl⟩ ⟨rfl, rfl, rfl, rfl, rfl, trivial⟩ (fun hp h => h.le) ?_
  intro ⟨i, w, N3, acc, us⟩ ⟨hi, hacc, hal, hw, hus⟩
  dsimp only at hi hacc hal hw hus ⊢
  obtain ⟨Aw, ow, rfl⟩ := hw.sl
  have hwl := wt_itL t
  have hwm : wt i5 ≤ wts (itL t) := wts_mem (by rw [hl]; simp)
  have hw5 := wt_itL i5
  have hw6 := wts_len (itL i5)
  refine wo ?_
  by_cases g : i < (itL i5).length
  ·apply wm; iterate 5 exact rfl
   refine Af (v := .b true) rfl rfl (AL (by omega))
   refine wo ?_
   obtain ⟨vi, di, li, Pi⟩ := CT (i := i) hvs5 (Iq g)
   have hmem : (itL i5)[i] ∈ itL i5 := List.getElem_mem g
   have hnx : (itL i5).take (i + 1) = (itL i5).take i ++ [(itL i5)[i]] := List.take_succ_eq_append_getElem g
   generalize (itL i5)[i] = x at *
   obtain ⟨b6, o6', rfl⟩ := GG hA6 di li
   obtain ⟨A7, c7, o7, A8, c8, o8, vs8, rfl, _, hP8, hvs8⟩ := Eh Sn.nil Pi
   have hA8 := hB _ _ hP8
   apply wn; iterate 5 exact rfl
   refine CO rfl rfl g
   apply wm; iterate 5 exact rfl
   refine BT (j := i * 3) (s := 2) rfl hA6.1 hA6.2 rfl di li
   apply p_op; exact (Aa rfl); iterate 4 exact rfl
   refine As rfl fun b19 => ⟨_, rfl, ?_⟩
   apply p_do; exact (Aa rfl); exact rfl; exact rfl
   refine AG (C' := [.b (isL x), .sl A7 (itB x).length c7 o7, .sl A8 (itL x).length c8 o8]) rfl rfl (by simp) rfl (Io rfl) rfl ⟨_, rfl, ?_⟩
   refine wo ?_
   by_cases m1 : (itL x).length = 1
   ·obtain ⟨k, hk⟩ : ∃ k, itL x = [k] := List.length_eq_one_iff.1 m1
    have hc1 : chg1 x = some ⟨itB k, [], true⟩ := by unfold chg1; rw [hk]
    obtain ⟨vk, dk, lk, Pk⟩ := CT (i := 0) (t := k) hvs8 (by rw [hk]; rfl)
    obtain ⟨b8, o8', rfl⟩ := GG hA8 dk lk
    obtain ⟨Ak, ck, ok, _, _, _, _, rfl, hPk, _, _⟩ := Eh Sn.nil Pk
    have hxk := row_get (j := 1) dk rfl
    apply wm; iterate 5 exact rfl
    refine Af (v := .b true) rfl rfl (Be (by omega))
    refine wo ?_
    refine yX (Bi rfl (hch _)) ?_
    refine wo ?_
    apply dn; iterate 5 exact rfl
    refine CO (i := 0) rfl rfl (by omega)
    refine wo ?_
    apply dm; iterate 6 exact rfl
    refine BO (j := 0 * 3 + 1) rfl hA8.1 hA8.2 rfl hxk
    apply dn; iterate 5 exact rfl
    refine Av (C := [.sl Ak (itB k).length ck ok, .sl none 0 0 false, .b true]) (.cons rfl rfl rfl rfl (Io rfl) (.cons rfl rfl rfl rfl (Io rfl) .nil)) rfl
    apply d_op; exact (Aa rfl); exact rfl; exact noRd rfl; decide +kernel; (iterate 3 exact rfl); rotate_left
    refine Fl (C := [.sl Ak (itB k).length ck ok, .sl none 0 0 false, .b true]) (n := 1) (sz := 3) rfl rfl (by decide) (.cons rfl rfl rfl .nil) rfl rfl fun b1 => ⟨_, rfl, ?_⟩
    try (case hok => exact A9)
    apply d_op; exact (Aa rfl); exact rfl; exact noRd rfl; decide +kernel; (iterate 3 exact rfl); rotate_left
    refine EU (n := 1) hw rfl rfl (Bw (k := 3) rfl) rfl (by decide) (by omega) fun A3 o3 N4 hw3 => ⟨_, rfl, ?_⟩
    try (case hok => exact Bf (by decide +kernel))
    refine wo ?_
    apply d_do; exact (Aa rfl); exact rfl; exact noRd rfl; decide +kernel; exact rfl; rotate_left
    refine e_st (C' := recC (rc []) (.sl A3 (i + 1) (i + 1) o3)) rfl rfl rfl (by rw [hr68]; decide) (GF hrOk) ⟨_, rfl, ?_⟩
    try (case hok => exact Bf (by decide +kernel))
    refine wo ?_
    exact ⟨rfl, (i + 1, .sl A3 (i + 1) (i + 1) o3, N4, acc ++ [⟨itB k, [], true⟩], us ++ [[.sl Ak (itB k).length ck ok, .sl none 0 0 false, .b true]]), ⟨g, by rw [hnx]; exact chS_snoc hacc hc1, by simp [hal], by rw [B5]; exact hw3, Hx ⟨_, _, _, _, _, _, rfl, hPk, Sn.nil⟩ hus⟩, by dsimp only; omega, ⟨rfl, rfl, rfl, rfl, rfl, trivial⟩, fun hp h => h.le⟩
   apply wm; iterate 5 exact rfl
   refine Af (v := .b false) rfl rfl (BW (by omega))
   refine wo ?_
   by_cases m2 : (itL x).length = 2
   ·obtain ⟨k, k', hk⟩ : ∃ k k', itL x = [k, k'] := by
     match itL x, m2 with
     | [k, k'], _ => exact ⟨k, k', rfl⟩
    have hc1 : chg1 x = some ⟨itB k, itB k', false⟩ := by unfold chg1; rw [hk]
    obtain ⟨vk, dk, lk, Pk⟩ := CT (i := 0) (t := k) hvs8 (by rw [hk]; rfl)
    obtain ⟨vk', dk', lk', Pk'⟩ := CT (i := 1) (t := k') hvs8 (by rw [hk]; rfl)
    obtain ⟨b8, o8', rfl⟩ := GG hA8 dk lk
    obtain ⟨Ak, ck, ok, _, _, _, _, rfl, hPk, _, _⟩ := Eh Sn.nil Pk
    obtain ⟨Ak', ck', ok', _, _, _, _, rfl, hPk', _, _⟩ := Eh Sn.nil Pk'
    have hxk := row_get (j := 1) dk rfl
    have hxk' := row_get (j := 1) dk' rfl
    apply wm; iterate 5 exact rfl
    refine Af (v := .b true) rfl rfl (Be (by omega))
    refine wo ?_
    refine yX (Bi rfl (hch _)) ?_
    refine wo ?_
    apply dn; iterate 5 exact rfl
    refine CO (i := 0) rfl rfl (by omega)
    refine wo ?_
    apply dm; iterate 6 exact rfl
    refine BO (j := 0 * 3 + 1) rfl hA8.1 hA8.2 rfl hxk
    refine wo ?_
    apply dn; iterate 5 exact rfl
    refine CO (i := 1) rfl rfl (by omega)
    refine wo ?_
    apply dm; iterate 6 exact rfl
    refine BO (j := 1 * 3 + 1) rfl hA8.1 hA8.2 rfl hxk'
    apply dn; iterate 5 exact rfl
    refine Av (C := [.sl Ak (itB k).length ck ok, .sl Ak' (itB k').length ck' ok', .b false]) (.cons rfl rfl rfl rfl (Io rfl) (.cons rfl rfl rfl rfl (Io rfl) .nil)) rfl
    apply d_op; exact (Aa rfl); exact rfl; exact noRd rfl; decide +kernel; (iterate 3 exact rfl); rotate_left
    refine Fl (C := [.sl Ak (itB k).length ck ok, .sl Ak' (itB k').length ck' ok', .b false]) (n := 1) (sz := 3) rfl rfl (by decide) (.cons rfl rfl rfl .nil) rfl rfl fun b1 => ⟨_, rfl, ?_⟩
    try (case hok => exact A9)
    apply d_op; exact (Aa rfl); exact rfl; exact noRd rfl; decide +kernel; (iterate 3 exact rfl); rotate_left
    refine EU (n := 1) hw rfl rfl (Bw (k := 3) rfl) rfl (by decide) (by omega) fun A3 o3 N4 hw3 => ⟨_, rfl, ?_⟩
    try (case hok => exact Bf (by decide +kernel))
    refine wo ?_
    apply d_do; exact (Aa rfl); exact rfl; exact noRd rfl; decide +kernel; exact rfl; rotate_left
    refine e_st (C' := recC (rc []) (.sl A3 (i + 1) (i + 1) o3)) rfl rfl rfl (by rw [hr68]; decide) (GF hrOk) ⟨_, rfl, ?_⟩
    try (case hok => exact Bf (by decide +kernel))
    refine wo ?_
    exact ⟨rfl, (i + 1, .sl A3 (i + 1) (i + 1) o3, N4, acc ++ [⟨itB k, itB k', false⟩], us ++ [[.sl Ak (itB k).length ck ok, .sl Ak' (itB k').length ck' ok', .b false]]), ⟨g, by rw [hnx]; exact chS_snoc hacc hc1, by simp [hal], by rw [B5]; exact hw3, Hx ⟨_, _, _, _, _, _, rfl, hPk, hPk'⟩ hus⟩, by dsimp only; omega, ⟨rfl, rfl, rfl, rfl, rfl, trivial⟩, fun hp h => h.le⟩
   have hno : chS (itL i5) = none := chS_none hmem (by
    unfold chg1
    split
    ·rename_i hk; rw [hk] at m1; exact absurd rfl m1
    ·rename_i hk; rw [hk] at m2; exact absurd rfl m2
    ·rfl)
   rw [hno]
   apply wm; iterate 5 exact rfl
   refine Af (v := .b false) rfl rfl (BW (by omega))
   refine wo ?_
   apply wn; iterate 5 exact rfl
   refine Av (C := zRC) .nil rfl
   apply p_do; exact (Aa rfl); exact rfl; exact rfl
   refine AG (C' := zRC) rfl rfl (by simp [recC]) rfl (Io rfl) rfl ⟨_, rfl, ?_⟩
   refine wo ?_
   exact Ay (Ag (B8 (AB rfl rfl) (Ai rfl)) ⟨[], cle, _, rfl, rfl⟩)
  apply wm; iterate 5 exact rfl
  refine Af (v := .b false) rfl rfl (AF (by omega))
  refine wo ?_
  refine Bd ?_
  obtain rfl : i = (itL i5).length := by omega
  rw [List.take_length] at hacc
  rw [hacc] at hrI ⊢
  have hfin := recI_ok hwt hrI
  refine wo ?_
  refine zX (AO (s := 67) (cs := recC (rc []) (.sl Aw (itL i5).length (itL i5).length ow)) rfl (by rw [List.drop_zero]; exact Ip (Nat.le_of_eq (hr68 _))) (hr68 _)) ?_
  apply p_do; exact (Aa rfl); exact rfl; exact rfl
  refine AG (C' := recC (rc []) (.sl Aw (itL i5).length (itL i5).length ow)) rfl rfl (hrne _) (hr68 _) (Io rfl) (by exact AC (hr68 _)) ⟨_, rfl, ?_⟩
  refine wo ?_
  refine Ay (Ag (B8 (AB rfl (hr68 _)) (Ai rfl)) ⟨N3 ++ N, cle, _, rfl, _, rfl, hfin, Aw, (itL i5).length, ow, us, ?_, hw.sn (fun p hp => List.mem_append_left _ hp), Hy (fun p hp => List.mem_append_right _ hp) hus⟩)
  rw [hrk, hal]
  rfl
/- Dr8: a payload read. By this project. -/
set_option maxHeartbeats 4000000 in
theorem bequal_d {A A' : Option (Nat × Nat)} {xs ys : List UInt8} {c c' : Nat} {o o' : Bool} {hp : Hp} (ho : OkH hp) (hA : RB ⟨hp, []⟩ A (xs.map byV)) (hA' : RB ⟨hp, []⟩ A' (ys.map byV)) :
  Fn kxD 52 [.sl A xs.length c o, .sl A' ys.length c' o'] hp [] fun r _ => r = .v (.b (decide (xs = ys))) := by
 refine Au (T := []) ho.sv (fun _ => rfl) (fn := Tryz.f52) (by kernel_rfl) rfl rfl ?_
 refine wo ?_
 apply wm; iterate 5 exact rfl
 refine m_b2so rfl hA.1 hA.2
 refine wo ?_
 apply wm; iterate 5 exact rfl
 refine m_b2so rfl hA'.1 hA'.2
 apply wm; iterate 5 exact rfl
 refine m_eqs rfl rfl
 refine wo ?_
 exact Ay (Ag (AR (Ai rfl)) (by by_cases h : xs = ys <;> simp [h]))
def jrdS (cb : Nat) (sec p : List UInt8) : Except Nat (Rec × List UInt8 × List UInt8) :=
 if p.length < 32 then .error 190
 else match recS (p.take (p.length - 32)) with
  | none => .error 190
  | some r => if ¬ mayR r ∨ Bo r ≠ p.take (p.length - 32) then .error 190
   else if cutB cb (macB sec (p.take (p.length - 32))) ≠ p.drop (p.length - 32) then .error 191
   else .ok (r, p.take (p.length - 32), p.drop (p.length - 32))
abbrev zH : List UInt8 := List.replicate 32 0
set_option maxHeartbeats 32000000 in
theorem jread_d {B : Bk} {b bits cb : Nat} {sec : List UInt8} {ha ca : List (List UInt8)} {fs : List (List UInt8 × List UInt8)} {p : List UInt8} {A : Option (Nat × Nat)} {c : Nat} {o : Bool} {hp : Hp} (hB : BkSt B b bits cb sec ha ca fs) (h0 : SV ⟨hp, hnds (bkL B)⟩ hp (bkL B)) (hk : Tab ⟨hp, hnds (bkL B)⟩) (hkk : KTab ⟨hp, hnds (bkL B)⟩) (hA : RB ⟨hp, hnds (bkL B)⟩ A (p.map byV)) (hc : p.length ≤ c) (hpl : p.length ≤ 140737488355328) :
  Fn kxD 19 [.p (some (b, 0)), .sl A p.length c o] hp (hnds (bkL B)) fun r' N => ∃ u, r' = .v u ∧ match jrdS cb sec p with
   | .error e => u = .tup [.agg zRC, hK zH, .i .i64 (e : Nat)] ∧ ∃ B', BkSt B' b bits cb sec ha ca fs ∧ N = bkL B'
   | .ok (r, body, code) => ∃ w X B', u = .tup [.agg w, hK code, .i .i64 0] ∧ RecX X r w ∧ BkSt B' b bits cb sec ha ca (if body ∉ ca then addF fs (body, code) else fs) ∧ N = X ++ bkL B' := by
 refine Fn.dropC ?_
 unfold jrdS
 refine Au h0 (fun _ => rfl) (fn := Tryz.f19) (by kernel_rfl) rfl rfl ?_
 refine wo ?_
 apply p_op; exact (Aa rfl); iterate 4 exact rfl
 refine As rfl fun b4 => ⟨_, rfl, ?_⟩
 apply p_op; exact (Aa rfl); iterate 4 exact rfl
 refine As rfl fun b5 => ⟨_, rfl, ?_⟩
 refine wo ?_
 apply wm; iterate 5 exact rfl
 refine m_eqp rfl rfl
 refine wo ?_
 by_cases g : p.length < 32
 ·rw [if_pos g]
  apply wm; iterate 5 exact rfl
  refine Af (v := .b true) rfl rfl (AL (by omega))
  refine wo ?_
  apply wn; iterate 5 exact rfl
  refine Av (C := zRC) .nil rfl
  apply wn; iterate 5 exact rfl
  refine DE
  apply p_do; exact (Aa rfl); exact rfl; exact rfl
  refine AG (C' := zRC) rfl rfl (by simp [recC]) rfl (Io rfl) rfl ⟨_, rfl, ?_⟩
  apply p_do; exact (Aa rfl); exact rfl; exact rfl
  refine AG (C' := zH.map byV) rfl rfl (by simp) rfl (Io rfl) rfl ⟨_, rfl, ?_⟩
  refine wo ?_
  exact Ay (Ag (FP (AB rfl rfl) (AB rfl rfl) (Ai rfl)) ⟨bkL B, cle, _, rfl, rfl, B, hB, rfl⟩)
 rw [if_neg g]
 obtain ⟨ba, oa, rfl⟩ := DT hA (by omega)
 obtain ⟨body, hbody⟩ : ∃ body, body = p.take (p.length - 32) := ⟨_, rfl⟩
 obtain ⟨code, hcode⟩ : ∃ code, code = p.drop (p.length - 32) := ⟨_, rfl⟩
 rw [← hbody, ← hcode]
 have hbl : p.length - 32 = body.length := by rw [hbody, List.length_take]; omega
 have hcl : code.length = 32 := by rw [hcode, List.length_drop]; omega
 have hcl' : (code.map byV).length = 32 := by rw [List.length_map, hcl]
 have hcn : code.map byV ≠ [] := fun e => by rw [e] at hcl'; simp at hcl'
 have hAb : RB ⟨hp, hnds (bkL B)⟩ (some (ba, oa)) (body.map byV) := by
  have := hA.take (p.length - 32)
  rwa [← List.map_take, ← hbody] at this
 have hAc : ((p.map byV).drop body.length).take 32 = code.map byV := by
  rw [← List.map_drop, ← List.map_take, ← hbl, ← hcode, Ip (Nat.le_of_eq hcl)]
 apply wm; iterate 5 exact rfl
 refine Af (v := .b false) rfl rfl (AF (by omega))
 refine wo ?_
 rw [hbl]
 refine zX (m_slD (i := 0) (j := body.length) rfl Cj (BR rfl) (Nat.zero_le _) (by omega) (by omega)) ?_
 rw [Nat.add_zero, Nat.sub_zero, Nat.sub_zero]
 apply AU []; exact (Aa rfl); iterate 4 exact rfl
 case hC => exact (fun hp' hs ht => clone_g hs.ok rfl (.inl (hAb.give0 hs)) (by omega))
 rintro u N ⟨bb, o1, oo, rfl, rfl⟩
 refine wo ?_
 rw [hbl]
 refine zX (m_slD (i := body.length) (j := p.length) rfl (BR rfl) Cj (by omega) hc (by omega)) ?_
 apply wn; iterate 5 exact rfl
 refine pv_s2a rfl rfl (by omega) (by decide)
 apply wm; iterate 5 exact rfl
 refine BT (j := body.length) (s := 31) (vs := code.map byV) rfl hA.1 hA.2 rfl hAc hcl'
 apply p_op; exact (Aa rfl); iterate 4 exact rfl
 refine As rfl fun b8 => ⟨_, rfl, ?_⟩
 apply p_do; exact (Aa rfl); exact rfl; exact rfl
 refine AG (C' := code.map byV) rfl rfl hcn hcl' (Io rfl) (by exact AC hcl') ⟨_, rfl, ?_⟩
 refine wo ?_
 cases hS : recS body with
 | none =>
  dsimp only
  have hC : ∀ {L : HV} {hp' : Hp}, SV ⟨hp, hnds (bkL B)⟩ hp' L → RB ⟨hp', []⟩ (some (bb, 0)) (body.map byV) → Fn kxD 51 [.sl (some (bb, 0)) body.length body.length o1] hp' [] fun r N => ∃ u, r = .v u ∧ u = .tup [.agg zRC, .b false] := fun hs hb => by
   have := recof_d (o0 := o1) hs.ok hb (Nat.le_refl body.length)
   rw [hS] at this
   exact this
  apply AU []; exact (Aa rfl); iterate 4 exact rfl
  case hC => exact (fun hp' hs ht => hC hs (DB hs (DM _)))
  rintro u N rfl
  refine wo ?_
  apply p_op; exact (Aa rfl); iterate 4 exact rfl
  refine As rfl fun b9 => ⟨_, rfl, ?_⟩
  apply p_do; exact (Aa rfl); exact rfl; exact rfl
  refine AG (C' := zRC) rfl rfl (by simp [recC]) rfl (Io rfl) rfl ⟨_, rfl, ?_⟩
  refine wo ?_
  apply wn; iterate 5 exact rfl
  refine Av (C := zRC) .nil rfl
  apply wn; iterate 5 exact rfl
  refine DE
  apply p_do; exact (Aa rfl); exact rfl; exact rfl
  refine AG (C' := zRC) rfl rfl (by simp [recC]) rfl (Io rfl) rfl ⟨_, rfl, ?_⟩
  apply p_do; exact (Aa rfl); exact rfl; exact rfl
  refine AG (C' := zH.map byV) rfl rfl (by simp) rfl (Io rfl) rfl ⟨_, rfl, ?_⟩
  refine wo ?_
  exact Ay (Ag (FP (AB rfl rfl) (AB rfl rfl) (Ai rfl)) ⟨bkL B, cle, _, rfl, rfl, B, hB, rfl⟩)
 | some r =>
  dsimp only
  have hC : ∀ {L : HV} {hp' : Hp}, SV ⟨hp, hnds (bkL B)⟩ hp' L → RB ⟨hp', []⟩ (some (bb, 0)) (body.map byV) → Fn kxD 51 [.sl (some (bb, 0)) body.length body.length o1] hp' [] fun r' N => ∃ u, r' = .v u ∧ ∃ w, u = .tup [.agg w, .b true] ∧ RecX N r w := fun hs hb => by
   have := recof_d (o0 := o1) hs.ok hb (Nat.le_refl body.length)
   rw [hS] at this
   exact this
  apply AU []; exact (Aa rfl); iterate 4 exact rfl
  case hC => exact (fun hp' hs ht => hC hs (DB hs (DM _)))
  rintro u X ⟨w, rfl, hX⟩
  have hX0 := hX
  obtain ⟨hok, A5, c5, o5, us, rfl, _, _⟩ := hX
  have h68 : (recC r (.sl A5 r.ch.length c5 o5)).length = 68 := Dg hok
  have hne : recC r (.sl A5 r.ch.length c5 o5) ≠ [] := fun e => by rw [e] at h68; simp at h68
  refine wo ?_
  apply p_op; exact (Aa rfl); iterate 4 exact rfl
  refine As rfl fun b9 => ⟨_, rfl, ?_⟩
  apply p_do; exact (Aa rfl); exact rfl; exact rfl
  refine AG (C' := recC r (.sl A5 r.ch.length c5 o5)) rfl rfl hne h68 (Io rfl) (by exact AC h68) ⟨_, rfl, ?_⟩
  refine wo ?_
  refine zX (AO (s := 67) (cs := recC r (.sl A5 r.ch.length c5 o5)) rfl (by rw [List.drop_zero]; exact Ip (Nat.le_of_eq h68)) h68) ?_
  apply AU []; exact (Aa rfl); iterate 4 exact rfl
  case hC => exact (fun hp' hs ht => jbody_d hs.ok (hkk.give0 hs) (hX0.r (Lt := []) hs (fun p hp => by simp [hp])))
  rintro u N2 ⟨hgood, hbad⟩
  by_cases hm : mayR r
  rotate_left
  ·obtain ⟨rfl, rfl⟩ := hbad hm
   rw [if_pos (.inl hm)]
   refine wo ?_
   apply wm; iterate 5 exact rfl
   refine Af (v := .b true) rfl rfl (Cu ((by simp)))
   refine wo ?_
   apply wn; iterate 5 exact rfl
   refine Av (C := zRC) .nil rfl
   apply wn; iterate 5 exact rfl
   refine DE
   apply p_do; exact (Aa rfl); exact rfl; exact rfl
   refine AG (C' := zRC) rfl rfl (by simp [recC]) rfl (Io rfl) rfl ⟨_, rfl, ?_⟩
   apply p_do; exact (Aa rfl); exact rfl; exact rfl
   refine AG (C' := zH.map byV) rfl rfl (by simp) rfl (Io rfl) rfl ⟨_, rfl, ?_⟩
   refine wo ?_
   exact Ay (Ag (FP (AB rfl rfl) (AB rfl rfl) (Ai rfl)) ⟨bkL B, cle, _, rfl, rfl, B, hB, rfl⟩)
  obtain ⟨w2, rfl, hu⟩ := hgood hm
  obtain ⟨A2, o2, rfl⟩ := hu.sl
  refine wo ?_
  apply wm; iterate 5 exact rfl
  refine Af (v := .b false) rfl rfl (AK ((by simp)))
  refine wo ?_
  refine AY (BH rfl rfl rfl) rfl rfl rfl rfl (fun hp' hs => bequal_d hs.ok (hu.rb (Lt := []) (Lr := N2 ++ _) hs) (DB hs (DM _))) ?_
  by_cases he : Bo r = body
  rotate_left
  ·rw [decide_eq_false he, if_pos (.inr he)]
   refine wo ?_
   apply wn; iterate 5 exact rfl
   refine Av (C := zRC) .nil rfl
   apply wn; iterate 5 exact rfl
   refine DE
   apply p_do; exact (Aa rfl); exact rfl; exact rfl
   refine AG (C' := zRC) rfl rfl (by simp [recC]) rfl (Io rfl) rfl ⟨_, rfl, ?_⟩
   apply p_do; exact (Aa rfl); exact rfl; exact rfl
   refine AG (C' := zH.map byV) rfl rfl (by simp) rfl (Io rfl) rfl ⟨_, rfl, ?_⟩
   refine wo ?_
   exact Ay (Ag (FP (AB rfl rfl) (AB rfl rfl) (Ai rfl)) ⟨bkL B, cle, _, rfl, rfl, B, hB, rfl⟩)
  rw [decide_eq_true he, if_neg (fun h => h.elim (fun h => h hm) (fun h => h he))]
  refine wo ?_
  refine zX (AO (s := 31) (cs := code.map byV) rfl (by rw [List.drop_zero]; exact Ip (Nat.le_of_eq hcl')) hcl') ?_
  apply Db (bkL B); exact (Aa rfl); iterate 4 exact rfl
  case hC => exact (fun hp' hs ht => accept_gs hB ht (hk.give hs) (rb_at hs (DM _)) ⟨Nat.le_refl _, fun _ => Nat.le_refl _⟩ (by omega) hcl)
  rintro u N3 ⟨rfl, B', hB', rfl⟩
  by_cases hq : cutB cb (macB sec body) = code
  rotate_left
  ·rw [decide_eq_false hq, if_pos hq]
   rw [if_neg (fun h => hq h.1)] at hB'
   refine wo ?_
   apply wn; iterate 5 exact rfl
   refine Av (C := zRC) .nil rfl
   apply wn; iterate 5 exact rfl
   refine DE
   apply p_do; exact (Aa rfl); exact rfl; exact rfl
   refine AG (C' := zRC) rfl rfl (by simp [recC]) rfl (Io rfl) rfl ⟨_, rfl, ?_⟩
   apply p_do; exact (Aa rfl); exact rfl; exact rfl
   refine AG (C' := zH.map byV) rfl rfl (by simp) rfl (Io rfl) rfl ⟨_, rfl, ?_⟩
   refine wo ?_
   exact Ay (Ag (FP (AB rfl rfl) (AB rfl rfl) (Ai rfl)) ⟨bkL B', cle, _, rfl, rfl, B', hB', rfl⟩)
  rw [decide_eq_true hq, if_neg (fun h => h hq)]
  have hif : (if cutB cb (macB sec body) = code ∧ body ∉ ca then addF fs (body, code) else fs) = (if body ∉ ca then addF fs (body, code) else fs) := by
   by_cases h : body ∈ ca
   ·rw [if_neg (fun k => k.2 h), if_neg (fun k => k h)]
   ·rw [if_pos ⟨hq, h⟩, if_pos h]
  rw [hif] at hB'
  refine He (fun hp hs => (⟨nin1 (b := b9) (b' := b4) hs (by omega), nin1 (b := b9) (b' := b5) hs (by omega), nin1 (b := b8) (b' := b4) hs (by omega), nin1 (b := b8) (b' := b5) hs (by omega)⟩ : NotIn b9 [b4] ∧ NotIn b9 [b5] ∧ NotIn b8 [b4] ∧ NotIn b8 [b5])) fun ⟨n1, n2, n3, n4⟩ => ?_
  refine wo ?_
  refine yX (AO (s := 67) (cs := recC r (.sl A5 r.ch.length c5 o5)) rfl (by rw [List.drop_zero]; exact Ip (Nat.le_of_eq h68)) h68) ?_
  refine yX (AO (s := 31) (cs := code.map byV) rfl (by rw [List.drop_zero]; exact Ip (Nat.le_of_eq hcl')) hcl') ?_
  apply d_do; exact (Aa rfl); exact rfl; exact noRd rfl; decide +kernel; exact rfl; rotate_left
  refine AG (C' := recC r (.sl A5 r.ch.length c5 o5)) rfl rfl hne h68 (Io rfl) (by exact AC h68) ⟨_, rfl, ?_⟩
  try (case hok => exact rdOk_c)
  apply d_do; exact (Aa rfl); exact rfl; exact noRd rfl; decide +kernel; exact rfl; rotate_left
  refine AG (C' := code.map byV) rfl rfl hcn hcl' (Io rfl) (by exact AC hcl') ⟨_, rfl, ?_⟩
  try (case hok => exact Bf (by decide +kernel))
  refine wo ?_
  exact Ay (Ag (FP (AB rfl h68) (AB rfl hcl') (Ai rfl)) ⟨X ++ bkL B', cle, _, rfl, _, X, B', rfl, hX0, hB', rfl⟩)
/- Dr9: what was encoded is read as it was; a record's body says that record. By this project. -/
theorem bAt_app {pre x : List UInt8} {i : Nat} : bAt (pre ++ x) (pre.length + i) = bAt x i := by
 unfold bAt
 rw [List.getElem?_append_right (by omega), Nat.add_sub_cancel_left]
theorem Ik {pre x : List UInt8} : bAt (pre ++ x) pre.length = bAt x 0 := bAt_app (i := 0)
theorem drop_app {pre x : List UInt8} : (pre ++ x).drop pre.length = x := by rw [List.drop_append_of_le_length (Nat.le_refl _), List.drop_of_length_le (Nat.le_refl _), List.nil_append]
theorem shortB_beN : ∀ (n : Nat), beN 0 (Ax n) = n := by
 intro n
 induction n using Nat.strongRecOn with
 | ind n ih =>
  rcases Nat.eq_zero_or_pos n with rfl | h
  ·rw [Bv]; rfl
  ·rw [Cf h, beN_app, ih (n / 256) (by omega), beN, beN, UInt8.toNat_ofNat']
   omega
theorem shortB_head : ∀ (n : Nat), 0 < n → 0 < (Ax n).length ∧ bAt (Ax n) 0 ≠ 0 := by
 intro n
 induction n using Nat.strongRecOn with
 | ind n ih =>
  intro h
  rw [Cf h]
  rcases Nat.eq_zero_or_pos (n / 256) with h0 | h0
  ·rw [h0, Bv]
   refine ⟨by simp, ?_⟩
   show (UInt8.ofNat n).toNat ≠ 0
   rw [UInt8.toNat_ofNat']
   omega
  ·obtain ⟨h1, h2⟩ := ih (n / 256) (by omega) h0
   refine ⟨by rw [List.length_append]; omega, ?_⟩
   have : bAt (Ax (n / 256) ++ [UInt8.ofNat n]) 0 = bAt (Ax (n / 256)) 0 := by
    unfold bAt
    rw [List.getElem?_append_left h1]
   rw [this]
   exact h2
theorem lenS_head {base : UInt8} {n e : Nat} {pre rest : List UInt8} (hb : base.toNat = 128 ∨ base.toNat = 192) (hn : n ≤ 1048576) (he : pre.length + (BA base n).length ≤ e) :
  lenS (pre ++ (BA base n ++ rest)) e pre.length = .ok (n, pre.length + (BA base n).length) ∧ base.toNat ≤ bAt (pre ++ (BA base n ++ rest)) pre.length ∧ bAt (pre ++ (BA base n ++ rest)) pre.length < base.toNat + 64 := by
 by_cases g : n < 56
 ·have e0 : BA base n = [base + UInt8.ofNat n] := if_pos g
  have e1 : (base + UInt8.ofNat n).toNat = base.toNat + n := by
   rw [UInt8.toNat_add, UInt8.toNat_ofNat']
   omega
  rw [e0]
  have e2 : bAt (pre ++ ([base + UInt8.ofNat n] ++ rest)) pre.length = base.toNat + n := by rw [Ik, ← e1]; rfl
  unfold lenS
  rw [e2, if_pos (by omega)]
  refine ⟨?_, by omega, by omega⟩
  rw [show (base.toNat + n) % 64 = n by omega]
  rfl
 ·have e0 : BA base n = (base + 55 + UInt8.ofNat (Ax n).length) :: Ax n := if_neg g
  obtain ⟨k1, k2⟩ := shortB_head n (by omega)
  have k3 : (Ax n).length ≤ 3 := Fv 3 n (by omega)
  have e1 : (base + 55 + UInt8.ofNat (Ax n).length).toNat = base.toNat + 55 + (Ax n).length := by
   rw [UInt8.toNat_add, UInt8.toNat_add, UInt8.toNat_ofNat']
   have : (55 : UInt8).toNat = 55 := rfl
   rw [this]
   omega
  rw [e0] at he ⊢
  rw [List.length_cons] at he
  have e2 : bAt (pre ++ (((base + 55 + UInt8.ofNat (Ax n).length) :: Ax n) ++ rest)) pre.length = base.toNat + 55 + (Ax n).length := by rw [Ik, ← e1]; rfl
  have e3 : bAt (pre ++ (((base + 55 + UInt8.ofNat (Ax n).length) :: Ax n) ++ rest)) (pre.length + 1) = bAt (Ax n) 0 := by
   rw [bAt_app]
   unfold bAt
   rw [List.cons_append, List.getElem?_cons_succ, List.getElem?_append_left k1]
  have e4 : ((pre ++ (((base + 55 + UInt8.ofNat (Ax n).length) :: Ax n) ++ rest)).drop (pre.length + 1)).take (Ax n).length = Ax n := by
   rw [← List.drop_drop, drop_app, List.cons_append, List.drop_succ_cons, List.drop_zero, List.take_append_of_le_length (Nat.le_refl _), Ip (Nat.le_refl _)]
  have e5 : (base.toNat + 55 + (Ax n).length) % 64 - 55 = (Ax n).length := by omega
  unfold lenS
  rw [e2, if_neg (by omega), e5, if_neg (by omega), e3, if_neg k2, e4, shortB_beN, if_neg (by omega), if_neg (by omega)]
  exact ⟨by rw [List.length_cons]; congr 2; omega, by omega, by omega⟩
theorem strB_s1 {x : UInt8} (h : x.toNat < 128) : strB [x] = [x] := by
 show (if x.toNat < 128 then [x] else BA 128 1 ++ [x]) = _
 rw [if_pos h]
theorem strB_sn {bs : List UInt8} (h : ∀ x, bs = [x] → ¬ x.toNat < 128) : strB bs = BA 128 bs.length ++ bs := by
 match bs, h with
 | [], _ => rfl
 | [x], h =>
  show (if x.toNat < 128 then [x] else BA 128 1 ++ [x]) = _
  rw [if_neg (h x rfl)]
  rfl
 | _ :: _ :: _, _ => rfl
mutual
theorem itemS_enc : ∀ (t : It) {pre post : List UInt8} {e d f : Nat}, pre.length + (enc t).length ≤ e → e ≤ pre.length + ((enc t).length + post.length) → (enc t).length ≤ 1048576 → d + depth t ≤ 80 → 2 * (e - pre.length) + 1 ≤ f → DZ f (pre ++ (enc t ++ post)) pre.length e d = some (.ok (t, pre.length + (enc t).length))
 | .str bs, pre, post, e, d, f, h1, h2, h3, h4, h5 => by
  have hpos := enc_pos (.str bs)
  obtain ⟨F, rfl⟩ : ∃ F, f = F + 1 := ⟨f - 1, by omega⟩
  rw [DZ, if_neg (by omega)]
  rw [enc] at *
  by_cases g : ∃ x, bs = [x] ∧ x.toNat < 128
  ·obtain ⟨x, rfl, hx⟩ := g
   rw [strB_s1 hx]
   have e2 : bAt (pre ++ ([x] ++ post)) pre.length = x.toNat := by rw [Ik]; rfl
   rw [e2, if_pos hx]
   simp
  ·have g' : ∀ x, bs = [x] → ¬ x.toNat < 128 := fun x hx hl => g ⟨x, hx, hl⟩
   rw [strB_sn g'] at h1 h2 h3 ⊢
   rw [List.length_append] at h1 h2 h3 ⊢
   obtain ⟨k1, k2, k3⟩ := lenS_head (base := 128) (n := bs.length) (e := e) (pre := pre) (rest := bs ++ post) (.inl rfl) (by omega) (by omega)
   rw [List.append_assoc] at *
   have h128 : (128 : UInt8).toNat = 128 := rfl
   rw [h128] at k2 k3
   rw [if_neg (by omega), if_neg (by omega), k1]
   dsimp only
   have e6 : pre ++ (BA 128 bs.length ++ (bs ++ post)) = (pre ++ BA 128 bs.length) ++ (bs ++ post) := by rw [List.append_assoc]
   have e7 : pre.length + (BA 128 bs.length).length = (pre ++ BA 128 bs.length).length := by rw [List.length_append]
   rw [if_neg (by omega), if_neg (by omega), if_neg]
   ·rw [e6, e7, drop_app, List.take_append_of_le_length (Nat.le_refl _), Ip (Nat.le_refl _), List.length_append, Nat.add_assoc]
   ·rintro ⟨q1, q2⟩
    obtain ⟨x, rfl⟩ := List.length_eq_one_iff.1 q1
    rw [e6, e7, Ik] at q2
    exact g' x rfl q2
 | .list l, pre, post, e, d, f, h1, h2, h3, h4, h5 => by
  have hpos := enc_pos (.list l)
  obtain ⟨F, rfl⟩ : ∃ F, f = F + 1 := ⟨f - 1, by omega⟩
  rw [DZ, if_neg (by omega)]
  rw [enc] at *
  rw [depth] at h4
  rw [List.length_append] at h1 h2 h3 ⊢
  obtain ⟨k1, k2, k3⟩ := lenS_head (base := 192) (n := (encs l).length) (e := e) (pre := pre) (rest := encs l ++ post) (.inr rfl) (by omega) (by omega)
  rw [List.append_assoc] at *
  have h192 : (192 : UInt8).toNat = 192 := rfl
  rw [h192] at k2 k3
  have hp := headB_pos 192 (encs l).length
  rw [if_neg (by omega), if_neg (by omega), k1]
  dsimp only
  rw [if_neg (by omega), if_pos k2]
  have e6 : pre ++ (BA 192 (encs l).length ++ (encs l ++ post)) = (pre ++ BA 192 (encs l).length) ++ (encs l ++ post) := by rw [List.append_assoc]
  have e7 : pre.length + (BA 192 (encs l).length).length = (pre ++ BA 192 (encs l).length).length := by rw [List.length_append]
  rw [e6, e7, listS_enc l (by omega) (by omega) (by omega), List.nil_append, List.length_append, Nat.add_assoc]
theorem listS_enc : ∀ (l : List It) {pre post : List UInt8} {d f : Nat} {acc : List It}, (encs l).length ≤ 1048576 → d + C9 l ≤ 80 → 2 * (encs l).length + 2 ≤ f → Eg f (pre ++ (encs l ++ post)) pre.length (pre.length + (encs l).length) d acc = some (.ok (.list (acc ++ l), pre.length + (encs l).length))
 | [], pre, post, d, f, acc, h1, h2, h3 => by
  obtain ⟨F, rfl⟩ : ∃ F, f = F + 1 := ⟨f - 1, by omega⟩
  rw [Eg, encs]
  simp
 | t :: r, pre, post, d, f, acc, h1, h2, h3 => by
  have hpos := enc_pos t
  rw [encs, List.length_append] at h1 h3
  rw [C9] at h2
  obtain ⟨F, rfl⟩ : ∃ F, f = F + 1 := ⟨f - 1, by omega⟩
  rw [Eg, if_pos (by rw [encs, List.length_append]; omega)]
  rw [encs, List.length_append, List.append_assoc]
  rw [itemS_enc t (post := encs r ++ post) (by omega) (by rw [List.length_append]; omega) (by omega) (by omega) (by omega)]
  dsimp only
  have e6 : pre ++ (enc t ++ (encs r ++ post)) = (pre ++ enc t) ++ (encs r ++ post) := by rw [List.append_assoc]
  have e7 : pre.length + (enc t).length = (pre ++ enc t).length := by rw [List.length_append]
  rw [e6, ← Nat.add_assoc, e7, listS_enc r (by omega) (by omega) (by omega), List.append_assoc]
  rfl
end
theorem decS_enc {t : It} (h : (enc t).length ≤ 1048576) (hd : depth t ≤ 80) : decS (enc t) = .ok t := by
 have := itemS_enc t (pre := []) (post := []) (e := (enc t).length) (d := 0) (f := 2 * (enc t).length + 1) (by simp) (by simp) h (by omega) (by simp)
 rw [List.nil_append, List.append_nil, List.length_nil, Nat.zero_add] at this
 unfold decS
 rw [if_neg (by omega), this]
 dsimp only
 rw [if_neg (Nat.lt_irrefl _)]
theorem intS_num {n : Nat} (h : n ≤ 9223372036854775807) : intS (.str (Ax n)) = some n := by
 rw [intS, if_neg (by have := Fv 8 n (by omega); omega), if_neg, shortB_beN, if_neg (by omega)]
 rintro ⟨h1, h2⟩
 rcases Nat.eq_zero_or_pos n with rfl | h0
 ·rw [Bv] at h1; simp at h1
 ·exact (shortB_head n h0).2 h2
theorem chg1_t {c : Chg} (h : mayC c) : chg1 (chgT c) = some c := by
 obtain ⟨key, val, gone⟩ := c
 unfold chgT chgK chg1
 cases gone with
 | true =>
  have : val = [] := by
   have := h.2
   rw [if_pos rfl] at this
   exact List.length_eq_zero_iff.1 this
  subst this
  rfl
 | false => rfl
theorem chS_t : ∀ {l : List Chg}, (∀ c ∈ l, mayC c) → chS (l.map chgT) = some l
 | [], _ => rfl
 | c :: r, h => by
  rw [List.map_cons, chS, chg1_t (h c List.mem_cons_self), chS_t fun c hc => h c (List.mem_cons_of_mem _ hc)]
theorem recS_body {r : Rec} (hok : RecOk r) (hm : mayR r) : recS (Bo r) = some r := by
 have hl := FK hok hm
 unfold recS Bo
 unfold Bo at hl
 rw [decS_enc (by omega) (rec_depth r)]
 dsimp only
 obtain ⟨kind, count, seq, prev, root, ch⟩ := r
 obtain ⟨m1, m2, m3, _, _, _, m4⟩ := hm
 dsimp only at *
 have n1 : intS (numI kind) = some kind.toNat := intS_num (by omega)
 have n2 : intS (numI count) = some count.toNat := intS_num (by omega)
 have n3 : intS (numI seq) = some seq.toNat := intS_num (by omega)
 unfold recI recT recK itL
 dsimp only
 rw [if_pos ⟨by rw [n1]; rfl, by rw [n2]; rfl, by rw [n3]; rfl, hok.prev, hok.root⟩]
 rw [chS_t m4, Option.map_some, (Ia n1).1, (Ia n2).1, (Ia n3).1]
 have e1 : ((kind.toNat : Nat) : Int) = kind := by omega
 have e2 : ((count.toNat : Nat) : Int) = count := by omega
 have e3 : ((seq.toNat : Nat) : Int) = seq := by omega
 rw [e1, e2, e3]
 rfl
/- Dr10: the first frame of bytes. By this project. -/
section
variable {K : Kx} {hp0 : Bs} {l : VL} {L : HV} {a b : Operand} {t t' : TypeId}
theorem m_shlI {x : Int} {k : IntKind} {p : Int} {m n : Nat} (hx : evL l a = some (.i .i64 x)) (hy : evL l b = some (.i k p)) [hm : CastN x m] [hn : CastN p n] (h : n ≤ 63) (h2 : m * 2 ^ n < 9223372036854775808) : MVO K hp0 l L (.binOp .shl t a b t') (.i .i64 ((m * 2 ^ n : Nat) : Int)) := by
 refine mv_sh hx hy ?_
 rw [hn.h, hm.h]
 show some (V.i .i64 (IntKind.i64.wrap ((m : Int) * 2 ^ min n IntKind.i64.bits))) = _
 rw [show min n IntKind.i64.bits = n by simp [IntKind.bits]; omega]
 have e : ((m : Int) * 2 ^ n) = ((m * 2 ^ n : Nat) : Int) := by norm_cast
 rw [e, IntWalk.i64_in _ (by omega)]
theorem m_orI {x y : Int} {m n : Nat} (hx : evL l a = some (.i .i64 x)) (hy : evL l b = some (.i .i64 y)) [hm : CastN x m] [hn : CastN y n] (h1 : m < 4294967296) (h2 : n < 4294967296) : MVO K hp0 l L (.binOp .or t a b t') (.i .i64 ((m ||| n : Nat) : Int)) := by
 obtain rfl := hm.h
 obtain rfl := hn.h
 refine Af hx hy ?_
 show some (V.i .i64 (IntKind.i64.wrap _)) = _
 have of : ∀ z : Nat, z < 4294967296 → (BitVec.ofInt IntKind.i64.bits (z : Int)).toNat = z := fun z hz => by
  simp only [IntKind.bits, BitVec.toNat_ofInt]
  omega
 have h3 := Nat.or_lt_two_pow (n := 32) h1 h2
 rw [BitVec.toNat_or, of m h1, of n h2, IntWalk.i64_in _ (by omega)]
end
theorem GM (y : UInt8) : (255 - y).toNat = 255 - y.toNat := by
 have key : ∀ k : Fin 256, ((255 : UInt8) - UInt8.ofNat k.val).toNat = 255 - k.val := by decide +kernel
 have := key ⟨y.toNat, y.toNat_lt⟩
 simpa using this
def endS (b : List UInt8) : Nat × Nat :=
 if b.length = 0 then (0, 91)
 else if bAt b 0 ≠ 202 then (0, 90)
 else if b.length < 7 then (0, 91)
 else if ¬ (bAt b 1 + bAt b 4 = 255 ∧ bAt b 2 + bAt b 5 = 255 ∧ bAt b 3 + bAt b 6 = 255) then (0, 90)
 else if 16384 < beN 0 ((b.drop 1).take 3) then (0, 90)
 else if b.length < 7 + beN 0 ((b.drop 1).take 3) then (0, 91)
 else (7 + beN 0 ((b.drop 1).take 3), 0)
set_option maxHeartbeats 16000000 in
theorem fend_d {A : Option (Nat × Nat)} {b : List UInt8} {c : Nat} {o : Bool} {hp : Hp} (ho : OkH hp) (hb : RB ⟨hp, []⟩ A (b.map byV)) (hl : b.length ≤ 140737488355328) :
  Fn kxD 85 [.sl A b.length c o] hp [] fun r _ => r = .v (.tup [.i .i64 ((endS b).1 : Nat), .i .i64 ((endS b).2 : Nat)]) := by
 unfold endS
 by_cases g0 : b.length = 0
 ·rw [if_pos g0]
  refine Au (T := []) ho.sv (fun _ => rfl) (fn := Tryz.f85) (by kernel_rfl) rfl rfl ?_
  refine wo ?_
  iterate 4 ((try refine BM ?_); refine wo ?_)
  apply wm; iterate 5 exact rfl
  refine Af (v := .b true) rfl rfl (Be (by omega))
  refine wo ?_
  exact Ay (Ag (B8 (Ai rfl) (Ai rfl)) rfl)
 rw [if_neg g0]
 obtain ⟨ba, oa, rfl⟩ := DT hb (by omega)
 have hx0 := EM (b := b) (p := 0) (by omega)
 have hy0 := F3 b 0
 refine Au (T := []) ho.sv (fun _ => rfl) (fn := Tryz.f85) (by kernel_rfl) rfl rfl ?_
 refine wo ?_
 iterate 4 ((try refine BM ?_); refine wo ?_)
 apply wm; iterate 5 exact rfl
 refine Af (v := .b false) rfl rfl (BW (by omega))
 refine wo ?_
 apply wn; iterate 5 exact rfl
 refine p_ia rfl rfl (by omega)
 apply wm; iterate 5 exact rfl
 refine BO (j := 0) rfl hb.1 hb.2 rfl hx0
 by_cases g1 : bAt b 0 ≠ 202
 ·rw [if_pos g1]
  apply wm; iterate 5 exact rfl
  refine Af (v := .b true) rfl rfl (Cu (by omega))
  refine wo ?_
  exact Ay (Ag (B8 (Ai rfl) (Ai rfl)) rfl)
 rw [if_neg g1]
 apply wm; iterate 5 exact rfl
 refine Af (v := .b false) rfl rfl (AK (by omega))
 refine wo ?_
 by_cases g2 : b.length < 7
 ·rw [if_pos g2]
  apply wm; iterate 5 exact rfl
  refine Af (v := .b true) rfl rfl (AL (by omega))
  refine wo ?_
  exact Ay (Ag (B8 (Ai rfl) (Ai rfl)) rfl)
 rw [if_neg g2]
 apply wm; iterate 5 exact rfl
 refine Af (v := .b false) rfl rfl (AF (by omega))
 refine wo ?_
 iterate 4 ((try refine BM ?_); refine wo ?_)
 refine Bq (ι := Nat) (fun i => [(5, .i .i64 (i : Nat)), (4, .i .i64 (beN 0 ((b.drop 1).take (i - 1)) : Nat)), (3, .i .i64 0), (2, .i .i64 0), (0, .sl (some (ba, oa)) b.length c o)]) (fun i => []) (fun i => 1 ≤ i ∧ i ≤ 4 ∧ ∀ j, 1 ≤ j → j < i → bAt b j + bAt b (j + 3) = 255) (fun i => 4 - i) 1 ⟨Nat.le_refl _, by decide, fun j h1 h2 => by omega⟩ ⟨rfl, rfl, rfl, rfl, rfl, trivial⟩ (fun hp h => h) ?_
 intro i ⟨hi1, hi2, hi3⟩
 try dsimp only
 refine wo ?_
 by_cases g3 : i ≤ 3
 ·have hn1 : i < b.length := by omega
  have hn2 : i + 3 < b.length := by omega
  have hxi : (b.map byV)[i]? = some (byV b[i]) := by rw [List.getElem?_map, Iq hn1]; rfl
  have hxj : (b.map byV)[i + 3]? = some (byV b[i + 3]) := by rw [List.getElem?_map, Iq hn2]; rfl
  have e1 := bAt_get hn1
  have e2 := bAt_get hn2
  have e3 := GM b[i + 3]
  have e4 := b[i + 3].toNat_lt
  have e5 := F3 b i
  apply wm; iterate 5 exact rfl
  refine Af (v := .b true) rfl rfl (Hg (by omega))
  refine wo ?_
  apply dn; iterate 5 exact rfl
  refine p_ia rfl rfl hn1
  apply dm; iterate 6 exact rfl
  refine BO (j := i) rfl hb.1 hb.2 (by omega) hxi
  refine wo ?_
  apply dn; iterate 5 exact rfl
  refine p_ia rfl rfl hn2
  apply dm; iterate 6 exact rfl
  refine BO (j := i + 3) rfl hb.1 hb.2 (by omega) hxj
  apply dn; iterate 5 exact rfl
  refine p_notB rfl
  by_cases g4 : bAt b i + bAt b (i + 3) = 255
  rotate_left
  ·rw [if_pos (fun h => g4 (by
    have : i = 1 ∨ i = 2 ∨ i = 3 := by omega
    rcases this with rfl | rfl | rfl
    ·exact h.1
    ·exact h.2.1
    ·exact h.2.2))]
   apply dm; iterate 6 exact rfl
   refine Af (v := .b true) rfl rfl (Cu ((fun h => g4 (by have h' := Int.ofNat.inj h; omega))))
   refine wo ?_
   exact Ay (Ag (B8 (Ai rfl) (Ai rfl)) rfl)
  have hbd : beN 0 ((b.drop 1).take (i - 1)) < 65536 := by
   have h1 := beN_lt ((b.drop 1).take (i - 1)) 0
   have h2 : ((b.drop 1).take (i - 1)).length ≤ 2 := by rw [List.length_take]; omega
   have h3 : 256 ^ ((b.drop 1).take (i - 1)).length ≤ 256 ^ 2 := Nat.pow_le_pow_right (by decide) h2
   have h4 : (256 : Nat) ^ 2 = 65536 := rfl
   omega
  have hnx : beN 0 ((b.drop 1).take (i + 1 - 1)) = beN 0 ((b.drop 1).take (i - 1)) * 256 + bAt b i := by
   rw [show i + 1 - 1 = (i - 1) + 1 by omega, List.take_succ_eq_append_getElem (by rw [List.length_drop]; omega), beN_app, beN, beN, List.getElem_drop, e1]
   congr 4
   omega
  apply dm; iterate 6 exact rfl
  refine Af (v := .b false) rfl rfl (AK ((by
   show ((b[i].toNat : Nat) : Int) = (((255 - b[i + 3]).toNat : Nat) : Int)
   omega)))
  refine wo ?_
  apply wm; iterate 5 exact rfl
  refine m_shlI rfl rfl (by decide) (by omega)
  refine wo ?_
  apply wn; iterate 5 exact rfl
  refine p_ia rfl rfl hn1
  apply wm; iterate 5 exact rfl
  refine BO (j := i) rfl hb.1 hb.2 (by omega) (EM hn1)
  refine wo ?_
  apply wm; iterate 5 exact rfl
  refine m_convI rfl (by omega)
  apply wm; iterate 5 exact rfl
  refine m_orI rfl rfl (by omega) (by omega)
  rw [or_shl e5, ← hnx]
  refine wo ?_
  exact ⟨rfl, i + 1, ⟨by omega, by omega, fun j h1 h2 => by
   by_cases h : j = i
   ·rw [h]; exact g4
   ·exact hi3 j h1 (by omega)⟩, by (try dsimp only); omega, ⟨rfl, rfl, rfl, rfl, rfl, trivial⟩, fun hp h => h⟩
 obtain rfl : i = 4 := by omega
 rw [if_neg (fun h => h ⟨hi3 1 (by decide) (by decide), hi3 2 (by decide) (by decide), hi3 3 (by decide) (by decide)⟩)]
 apply wm; iterate 5 exact rfl
 refine Af (v := .b false) rfl rfl (Hh (by omega))
 refine wo ?_
 refine Bd ?_
 rw [show 4 - 1 = 3 from rfl]
 have hbd : beN 0 ((b.drop 1).take 3) < 16777216 := by
  have h1 := beN_lt ((b.drop 1).take 3) 0
  have h2 : ((b.drop 1).take 3).length ≤ 3 := by rw [List.length_take]; omega
  have h3 : 256 ^ ((b.drop 1).take 3).length ≤ 256 ^ 3 := Nat.pow_le_pow_right (by decide) h2
  have h4 : (256 : Nat) ^ 3 = 16777216 := rfl
  omega
 generalize beN 0 ((b.drop 1).take 3) = n at *
 refine wo ?_
 by_cases g5 : 16384 < n
 ·rw [if_pos g5]
  apply wm; iterate 5 exact rfl
  refine Af (v := .b true) rfl rfl (Cv (by omega))
  refine wo ?_
  exact Ay (Ag (B8 (Ai rfl) (Ai rfl)) rfl)
 rw [if_neg g5]
 apply wm; iterate 5 exact rfl
 refine Af (v := .b false) rfl rfl (Bm (by omega))
 refine wo ?_
 by_cases g6 : b.length < 7 + n
 ·rw [if_pos g6]
  apply wm; iterate 5 exact rfl
  refine Af (v := .b true) rfl rfl (AL (by omega))
  refine wo ?_
  exact Ay (Ag (B8 (Ai rfl) (Ai rfl)) rfl)
 rw [if_neg g6]
 apply wm; iterate 5 exact rfl
 refine Af (v := .b false) rfl rfl (AF (by omega))
 refine wo ?_
 exact Ay (Ag (B8 (Ai rfl) (Ai rfl)) rfl)
theorem endS_ok {b : List UInt8} (h : (endS b).2 = 0) : 7 ≤ (endS b).1 ∧ (endS b).1 ≤ b.length := by
 unfold endS at h ⊢
 split at h
 ·simp at h
 ·split at h
  ·simp at h
  ·split at h
   ·simp at h
   ·split at h
    ·simp at h
    ·split at h
     ·simp at h
     ·split at h
      ·simp at h
      ·rename_i h1 h2 h3 h4 h5 h6
       rw [if_neg h1, if_neg h2, if_neg h3, if_neg h4, if_neg h5, if_neg h6]
       dsimp only
       omega
set_option maxHeartbeats 8000000 in
theorem first_d {A : Option (Nat × Nat)} {b : List UInt8} {c : Nat} {o : Bool} {hp : Hp} (ho : OkH hp) (hb : RB ⟨hp, []⟩ A (b.map byV)) (hc : b.length ≤ c) (hl : b.length ≤ 140737488355328) :
  Fn kxD 57 [.sl A b.length c o] hp [] fun r N => ∃ u, r = .v u ∧ ((endS b).2 ≠ 0 → u = .tup [.sl none 0 0 false, .i .i64 0, .i .i64 ((endS b).2 : Nat)] ∧ N = []) ∧ ((endS b).2 = 0 → ∃ bn on oo, u = .tup [.sl (some (bn, 0)) ((endS b).1 - 7) ((endS b).1 - 7) on, .i .i64 ((endS b).1 : Nat), .i .i64 0] ∧ N = [(some bn, .cells (((b.drop 7).take ((endS b).1 - 7)).map byV) 5 oo false)]) := by
 refine Fn.dropC ?_
 refine Au (T := []) ho.sv (fun _ => rfl) (fn := Tryz.f57) (by kernel_rfl) rfl rfl ?_
 refine wo ?_
 refine AY (Aa rfl) rfl rfl rfl rfl (fun hp hs => fend_d hs.ok (hb.give0 hs) hl) ?_
 refine wo ?_
 by_cases g : (endS b).2 = 0
 rotate_left
 ·apply wm; iterate 5 exact rfl
  refine Af (v := .b true) rfl rfl (Cu (by omega))
  refine wo ?_
  exact Ay (Ag (FP (Ai rfl) (Ai rfl) (Ai rfl)) ⟨[], cle, _, rfl, fun _ => ⟨rfl, rfl⟩, fun h => absurd h g⟩)
 obtain ⟨q1, q2⟩ := endS_ok g
 rw [g]
 apply wm; iterate 5 exact rfl
 refine Af (v := .b false) rfl rfl (AK (by omega))
 refine wo ?_
 generalize (endS b).1 = n at *
 apply p_op; exact (Aa rfl); iterate 4 exact rfl
 refine e_slH rfl (BR rfl) (BR rfl) (by decide) q1 q2 hc hb (by simp) fun a' c' hA' hc' => ⟨_, rfl, ?_⟩
 rw [← List.map_drop, ← List.map_take] at hA'
 apply AU []; exact (Aa rfl); iterate 4 exact rfl
 case hC => exact (fun hp' hs ht => clone_g hs.ok (by rw [List.length_take, List.length_drop]; omega) (hA'.imp (fun h => h.give0 hs) (fun h => by omega)) (by omega))
 rintro u N ⟨bn, on, oo, rfl, rfl⟩
 refine wo ?_
 exact Ay (Ag (FP (Ai rfl) (Ai rfl) (Ai rfl)) ⟨_, cle, _, rfl, fun h => absurd rfl h, fun _ => ⟨bn, on, oo, rfl, rfl⟩⟩)
/- Jt1: a record that may be, made of any one. By this project. -/
def madeC (c : Chg) : Chg := ⟨c.key.take 32, c.val.take 256, decide (c.val.length = 0)⟩
def BJ (r : Rec) (n : Nat) : Rec := ⟨2, (n : Nat), (1 + n / 2 : Nat), r.prev, r.root, (r.ch.take 32).map madeC⟩
theorem madeC_may (c : Chg) : mayC (madeC c) := by
 unfold mayC madeC
 dsimp only
 refine ⟨by rw [List.length_take]; omega, ?_⟩
 by_cases h : c.val.length = 0
 ·rw [decide_eq_true h, if_pos rfl, List.length_take]; omega
 ·rw [decide_eq_false h, if_neg (by simp), List.length_take]; omega
theorem madeR_may {r : Rec} {n : Nat} (h1 : 2 ≤ n) (h2 : n ≤ 1099511627776) : mayR (BJ r n) := by
 unfold mayR BJ
 dsimp only
 refine ⟨.inr rfl, ⟨by omega, by omega⟩, ⟨by omega, by omega⟩, fun _ => by omega, fun h => by omega, ?_, fun c hc => ?_⟩
 ·rw [List.length_map, List.length_take]; omega
 ·obtain ⟨x, _, rfl⟩ := List.mem_map.1 hc
  exact madeC_may x
theorem GR {r : Rec} {n : Nat} (h : RecOk r) : RecOk (BJ r n) := by
 refine ⟨h.prev, h.root, ?_, fun c hc => ?_⟩
 ·unfold BJ
  dsimp only
  rw [List.length_map, List.length_take]
  omega
 ·obtain ⟨x, _, rfl⟩ := List.mem_map.1 hc
  unfold madeC
  dsimp only
  rw [List.length_take, List.length_take]
  omega
def MdR (c : Chg) (v u : List V) : Prop := ∃ A kc ko A' vc vo, v = [.sl A c.key.length kc ko, .sl A' c.val.length vc vo, .b c.gone] ∧ u = [.sl A (c.key.take 32).length kc ko, .sl A' (c.val.take 256).length vc vo, .b (decide (c.val.length = 0))]
theorem MdR.r {B : Bs} {c : Chg} {v u : List V} (h : MdR c v u) (k : ChgR B c v) : ChgR B (madeC c) u := by
 obtain ⟨A, kc, ko, A', vc, vo, rfl, rfl⟩ := h
 obtain ⟨_, _, _, _, _, _, e, h1, h2⟩ := k
 simp only [List.cons.injEq, V.sl.injEq, and_true, true_and] at e
 obtain ⟨⟨rfl, rfl, rfl⟩, rfl, rfl, rfl⟩ := e
 refine ⟨_, _, _, _, _, _, rfl, ?_, ?_⟩
 ·have := h1.take 32
  rwa [← List.map_take] at this
 ·have := h2.take 256
  rwa [← List.map_take] at this
def MdRs : List Chg → List (List V) → List (List V) → Prop
 | [], _, us => us = []
 | c :: r, vs, us => ∃ v ws u xs, vs = v :: ws ∧ us = u :: xs ∧ MdR c v u ∧ MdRs r ws xs
theorem mdRs_snoc {c : Chg} {v u : List V} (k : MdR c v u) : ∀ {l : List Chg} {vs us : List (List V)}, MdRs l vs us → vs[l.length]? = some v → MdRs (l ++ [c]) vs (us ++ [u])
 | [], vs, us, h, hv => by
  rw [MdRs] at h
  subst h
  cases vs with
  | nil => simp at hv
  | cons x r =>
   simp only [List.length_nil, List.getElem?_cons_zero, Im] at hv
   subst hv
   exact ⟨x, r, u, [], rfl, rfl, k, rfl⟩
 | y :: r, vs, us, h, hv => by
  obtain ⟨w, ws, x, xs, rfl, rfl, h1, h2⟩ := h
  exact ⟨w, ws, x, xs ++ [u], rfl, rfl, h1, mdRs_snoc k h2 (by simpa using hv)⟩
theorem mdRs_r {B : Bs} {m : List Chg} : ∀ {l : List Chg} {vs us : List (List V)}, MdRs l vs us → Fq B (l ++ m) vs → Fq B (l.map madeC) us
 | [], vs, us, h, k => h
 | y :: r, vs, us, h, k => by
  obtain ⟨w, ws, x, xs, rfl, rfl, h1, h2⟩ := h
  obtain ⟨w', ws', e, k1, k2⟩ := k
  simp only [List.cons.injEq] at e
  obtain ⟨rfl, rfl⟩ := e
  exact ⟨x, xs, rfl, h1.r k1, mdRs_r h2 k2⟩
def MadeX (N : HV) (r : Rec) (n : Nat) (vs : List (List V)) (w : List V) : Prop := ∃ A o us, w = recC (BJ r n) (.sl A (BJ r n).ch.length (BJ r n).ch.length o) ∧ Sn N A us.flatten ∧ MdRs (r.ch.take 32) vs us
theorem MadeX.r {N : HV} {r : Rec} {n : Nat} {vs : List (List V)} {w : List V} (h : MadeX N r n vs w) (hok : RecOk r) {B : Bs} {hp : Hp} {Lt L : HV} (hs : SV B hp (Lt ++ L)) (hx : ∀ p ∈ N, p ∈ L) (hv : Fq ⟨hp, hnds Lt⟩ r.ch vs) : RecR ⟨hp, hnds Lt⟩ (BJ r n) w := by
 obtain ⟨A, o, us, rfl, h1, h2⟩ := h
 exact ⟨GR hok, A, _, o, us, rfl, h1 _ _ _ _ hs hx, mdRs_r (m := r.ch.drop 32) h2 (by rw [List.take_append_drop]; exact hv)⟩
def CapC (v : List V) : Prop := ∀ (A : Option (Nat × Nat)) (n c : Nat) (o : Bool), V.sl A n c o ∈ v → n ≤ c
set_option maxHeartbeats 32000000 in
theorem made_d {r : Rec} {A : Option (Nat × Nat)} {c n : Nat} {o : Bool} {vs : List (List V)} {hp : Hp} (ho : OkH hp) (hok : RecOk r) (hA : RB ⟨hp, []⟩ A vs.flatten) (hvs : Fq ⟨hp, []⟩ r.ch vs) (hcap : ∀ v ∈ vs, CapC v) (hn : n ≤ 1099511627776) :
  Fn kxD 18 [.agg (recC r (.sl A r.ch.length c o)), .i .i64 (n : Nat)] hp [] fun r' N => ∃ u, r' = .v u ∧ ∃ w, u = .agg w ∧ MadeX N r n vs w := by
 have hmok : RecOk (BJ r n) := GR hok
 have hm68 : ∀ s, (recC (BJ r n) s).length = 68 := fun s => Dg hmok
 have hmne : ∀ s, recC (BJ r n) s ≠ [] := fun s e => by have := hm68 s; rw [e] at this; simp at this
 have hmch : ∀ s, (recC (BJ r n) s)[0 + 67]? = some s := fun s => by rw [Nat.zero_add]; exact F7 hmok
 refine Fn.dropC ?_
 refine Au (T := []) ho.sv (fun _ => rfl) (fn := Tryz.f18) (by kernel_rfl) rfl rfl ?_
 refine wo ?_
 apply p_op; exact (Aa rfl); iterate 4 exact rfl
 refine Br rfl rfl fun bx => ⟨_, rfl, ?_⟩
 apply p_op; exact (Aa rfl); iterate 4 exact rfl
 refine As rfl fun bo => ⟨_, rfl, ?_⟩
 refine wo ?_
 apply p_do; exact (Aa rfl); exact rfl; exact rfl
 refine e_st (C' := recC ⟨2, r.count, r.seq, r.prev, r.root, r.ch⟩ (.sl A r.ch.length c o)) rfl rfl rfl (by simp [recC]) rfl ⟨_, rfl, ?_⟩
 refine wo ?_
 apply p_do; exact (Aa rfl); exact rfl; exact rfl
 refine e_st (C' := recC ⟨2, (n : Nat), r.seq, r.prev, r.root, r.ch⟩ (.sl A r.ch.length c o)) rfl rfl rfl (by simp [recC]) rfl ⟨_, rfl, ?_⟩
 refine wo ?_
 apply wm; iterate 5 exact rfl
 refine m_quoN rfl rfl (by decide) (by omega)
 refine wo ?_
 apply p_do; exact (Aa rfl); exact rfl; exact rfl
 refine e_st (C' := recC (BJ r n) (.sl A r.ch.length c o)) rfl rfl rfl (by simp [recC]) rfl ⟨_, rfl, ?_⟩
 refine wo ?_
 iterate 4 ((try refine BM ?_); refine wo ?_)
 refine Bq (ι := Nat × V × HV × List (List V)) (fun s => [(6, .i .i64 (s.1 : Nat)), (5, s.2.1), (4, .p (some (bo, 0))), (2, .p (some (bx, 0)))]) (fun s => (some bo, Am zRC 26) :: (some bx, Am (recC (BJ r n) (.sl A r.ch.length c o)) 26) :: s.2.2.1) (fun s => s.1 ≤ r.ch.length ∧ s.1 ≤ 32 ∧ RowG 87 3 s.1 s.2.2.2.flatten s.2.1 s.2.2.1 ∧ MdRs (r.ch.take s.1) vs s.2.2.2) (fun s => r.ch.length - s.1) (0, .sl none 0 0 false, [], []) ⟨Nat.zero_le _, Nat.zero_le _, .nil, rfl⟩ ⟨rfl, rfl, rfl, rfl, trivial⟩ (fun hp h => h) ?_
 intro ⟨i, w, N, us⟩ ⟨hi, hi2, hw, hus⟩
 dsimp only at hi hi2 hw hus ⊢
 obtain ⟨Aw, ow, rfl⟩ := hw.sl
 have hrest : ¬ (i < r.ch.length ∧ i < 32) → r.ch.take i = r.ch.take 32 ∧ (BJ r n).ch.length = i := fun h => by
  have e : r.ch.take i = r.ch.take 32 := by
   by_cases h1 : i < r.ch.length
   ·rw [show i = 32 by omega]
   ·rw [Ip (by omega), Ip (by omega)]
  exact ⟨e, by unfold BJ; dsimp only; rw [List.length_map, List.length_take]; omega⟩
 refine Gn [(6, .i .i64 (i : Nat)), (5, .sl Aw i i ow), (4, .p (some (bo, 0))), (2, .p (some (bx, 0)))] ((some bo, Am zRC 26) :: (some bx, Am (recC (BJ r n) (.sl A r.ch.length c o)) 26) :: N) (i < r.ch.length ∧ i < 32) ?_ fun g => ?_
 ·refine wo ?_
  refine zX (Bi rfl (hmch _)) ?_
  refine wo ?_
  by_cases g1 : i < r.ch.length
  ·apply wm; iterate 5 exact rfl
   refine Af (v := .b true) rfl rfl (AL (by omega))
   refine wo ?_
   by_cases g2 : i < 32
   ·apply wmg; iterate 7 exact rfl
    refine Af (v := .b true) rfl rfl (AL (by omega))
    refine wo ?_
    exact ⟨⟨g1, g2⟩, rfl, ⟨rfl, rfl, rfl, rfl, trivial⟩, fun hp h => h⟩
   ·obtain ⟨r1, r2⟩ := hrest (fun h => g2 h.2)
    rw [r1] at hus
    apply wmg; iterate 7 exact rfl
    refine Af (v := .b false) rfl rfl (AF (by omega))
    refine wo ?_
    refine Bd ?_
    refine wo ?_
    apply p_do; exact (Aa rfl); exact rfl; exact rfl
    refine e_st (C' := recC (BJ r n) (.sl Aw i i ow)) rfl rfl rfl (by rw [hm68]; decide) (GF hmok) ⟨_, rfl, ?_⟩
    refine wo ?_
    refine zX (AO (s := 67) (cs := recC (BJ r n) (.sl Aw i i ow)) rfl (by rw [List.drop_zero]; exact Ip (Nat.le_of_eq (hm68 _))) (hm68 _)) ?_
    apply p_do; exact (Aa rfl); exact rfl; exact rfl
    refine AG (C' := recC (BJ r n) (.sl Aw i i ow)) rfl rfl (hmne _) (hm68 _) (Io rfl) (by exact AC (hm68 _)) ⟨_, rfl, ?_⟩
    refine wo ?_
    exact Ay (Ag (AR (AB rfl (hm68 _))) ⟨N, cle, _, rfl, _, rfl, Aw, ow, us, by rw [r2], hw.sn (fun p hp => hp), hus⟩)
  ·obtain ⟨r1, r2⟩ := hrest (fun h => g1 h.1)
   rw [r1] at hus
   apply wm; iterate 5 exact rfl
   refine Af (v := .b false) rfl rfl (AF (by omega))
   refine wo ?_
   refine Bd ?_
   refine wo ?_
   apply p_do; exact (Aa rfl); exact rfl; exact rfl
   refine e_st (C' := recC (BJ r n) (.sl Aw i i ow)) rfl rfl rfl (by rw [hm68]; decide) (GF hmok) ⟨_, rfl, ?_⟩
   refine wo ?_
   refine zX (AO (s := 67) (cs := recC (BJ r n) (.sl Aw i i ow)) rfl (by rw [List.drop_zero]; exact Ip (Nat.le_of_eq (hm68 _))) (hm68 _)) ?_
   apply p_do; exact (Aa rfl); exact rfl; exact rfl
   refine AG (C' := recC (BJ r n) (.sl Aw i i ow)) rfl rfl (hmne _) (hm68 _) (Io rfl) (by exact AC (hm68 _)) ⟨_, rfl, ?_⟩
   refine wo ?_
   exact Ay (Ag (AR (AB rfl (hm68 _))) ⟨N, cle, _, rfl, _, rfl, Aw, ow, us, by rw [r2], hw.sn (fun p hp => hp), hus⟩)
 have g1 := g.1
 have g2 := g.2
 obtain ⟨vi, hv1, hti⟩ := chgRs_at hvs (Iq g1)
 have hvi := Di (Hz hvs) hv1
 have hcp := hcap vi (List.mem_of_getElem? hv1)
 have hnx : r.ch.take (i + 1) = r.ch.take i ++ [r.ch[i]] := List.take_succ_eq_append_getElem g1
 have hvl : vs[(r.ch.take i).length]? = some vi := by rw [List.length_take, Nat.min_eq_left (by omega)]; exact hv1
 generalize r.ch[i] = x at *
 obtain ⟨A1, kc, ko, A2, vc, vo, rfl, hk1, hk2⟩ := hti
 have hcp1 := hcp _ _ _ _ List.mem_cons_self
 have hcp2 := hcp _ _ _ _ (List.mem_cons_of_mem _ List.mem_cons_self)
 obtain ⟨ba, oa, rfl⟩ := GG hA hvi rfl
 refine BM ?_
 refine w_block ?_
 refine BM ?_
 refine wo ?_
 refine zX (Bi rfl (hmch _)) ?_
 refine wo ?_
 apply wn; iterate 5 exact rfl
 refine CO rfl rfl g1
 apply wm; iterate 5 exact rfl
 refine BT (j := i * 3) (s := 2) rfl hA.1 hA.2 rfl hvi rfl
 apply p_op; exact (Aa rfl); iterate 4 exact rfl
 refine As rfl fun b7 => ⟨_, rfl, ?_⟩
 apply p_do; exact (Aa rfl); exact rfl; exact rfl
 refine AG (C' := [.sl A1 x.key.length kc ko, .sl A2 x.val.length vc vo, .b x.gone]) rfl rfl (by simp) rfl (Io rfl) rfl ⟨_, rfl, ?_⟩
 refine wOS0 ?_
 refine Gn [(7, .p (some (b7, 0))), (6, .i .i64 (i : Nat)), (5, .sl Aw i i ow), (4, .p (some (bo, 0))), (2, .p (some (bx, 0)))] ((some b7, Am [.sl A1 (x.key.take 32).length kc ko, .sl A2 x.val.length vc vo, .b x.gone] 87) :: (some bo, Am zRC 26) :: (some bx, Am (recC (BJ r n) (.sl (some (ba, oa)) r.ch.length c o)) 26) :: N) True ?_ fun _ => ?_
 ·refine wo ?_
  by_cases k1 : 32 < x.key.length
  ·obtain ⟨bk, ok, rfl⟩ := DT hk1 (by omega)
   have e1 : (x.key.take 32).length = 32 := by rw [List.length_take]; omega
   apply wm; iterate 5 exact rfl
   refine Af (v := .b true) rfl rfl (Cv (by omega))
   refine wo ?_
   refine zX (m_slD (i := 0) (j := 32) rfl Cj (BR rfl) (by omega) (by omega) (by omega)) ?_
   refine wo ?_
   apply p_do; exact (Aa rfl); exact rfl; exact rfl
   refine e_st (C' := [.sl (some (bk, ok)) 32 kc ko, .sl A2 x.val.length vc vo, .b x.gone]) rfl rfl rfl (Io rfl) rfl ⟨_, rfl, ?_⟩
   refine wo ?_
   exact ⟨trivial, rfl, ⟨rfl, rfl, rfl, rfl, rfl, trivial⟩, fun hp h => by rw [e1]; exact h⟩
  ·have e1 : x.key.take 32 = x.key := Ip (by omega)
   apply wm; iterate 5 exact rfl
   refine Af (v := .b false) rfl rfl (Bm (by omega))
   refine wo ?_
   exact ⟨trivial, rfl, ⟨rfl, rfl, rfl, rfl, rfl, trivial⟩, fun hp h => by rw [e1]; exact h⟩
 refine Gn [(7, .p (some (b7, 0))), (6, .i .i64 (i : Nat)), (5, .sl Aw i i ow), (4, .p (some (bo, 0))), (2, .p (some (bx, 0)))] ((some b7, Am [.sl A1 (x.key.take 32).length kc ko, .sl A2 (x.val.take 256).length vc vo, .b x.gone] 87) :: (some bo, Am zRC 26) :: (some bx, Am (recC (BJ r n) (.sl (some (ba, oa)) r.ch.length c o)) 26) :: N) True ?_ fun _ => ?_
 ·refine wo ?_
  by_cases k1 : 256 < x.val.length
  ·obtain ⟨bk, ok, rfl⟩ := DT hk2 (by omega)
   have e1 : (x.val.take 256).length = 256 := by rw [List.length_take]; omega
   apply wm; iterate 5 exact rfl
   refine Af (v := .b true) rfl rfl (Cv (by omega))
   refine wo ?_
   refine zX (m_slD (i := 0) (j := 256) rfl Cj (BR rfl) (by omega) (by omega) (by omega)) ?_
   refine wo ?_
   apply p_do; exact (Aa rfl); exact rfl; exact rfl
   refine e_st (C' := [.sl A1 (x.key.take 32).length kc ko, .sl (some (bk, ok)) 256 vc vo, .b x.gone]) rfl rfl rfl (Io rfl) rfl ⟨_, rfl, ?_⟩
   refine wo ?_
   exact ⟨trivial, rfl, ⟨rfl, rfl, rfl, rfl, rfl, trivial⟩, fun hp h => by rw [e1]; exact h⟩
  ·have e1 : x.val.take 256 = x.val := Ip (by omega)
   apply wm; iterate 5 exact rfl
   refine Af (v := .b false) rfl rfl (Bm (by omega))
   refine wo ?_
   exact ⟨trivial, rfl, ⟨rfl, rfl, rfl, rfl, rfl, trivial⟩, fun hp h => by rw [e1]; exact h⟩
 have hz : (x.val.take 256).length = 0 ↔ x.val.length = 0 := by rw [List.length_take]; omega
 refine wo ?_
 by_cases k0 : x.val.length = 0
 ·have k0' := hz.2 k0
  apply wm; iterate 5 exact rfl
  refine Af (v := .b true) rfl rfl (Be (by omega))
  refine wo ?_
  apply p_do; exact (Aa rfl); exact rfl; exact rfl
  refine e_st (C' := [.sl A1 (x.key.take 32).length kc ko, .sl A2 (x.val.take 256).length vc vo, .b true]) rfl rfl rfl (Io rfl) rfl ⟨_, rfl, ?_⟩
  refine wo ?_
  refine zX (AO (s := 2) (cs := [.sl A1 (x.key.take 32).length kc ko, .sl A2 (x.val.take 256).length vc vo, .b true]) rfl rfl rfl) ?_
  apply p_op; exact (Aa rfl); iterate 4 exact rfl
  refine Fl (C := [.sl A1 (x.key.take 32).length kc ko, .sl A2 (x.val.take 256).length vc vo, .b true]) (n := 1) (sz := 3) rfl rfl (by decide) (.cons rfl rfl rfl .nil) rfl rfl fun b1 => ⟨_, rfl, ?_⟩
  apply p_op; exact (Aa rfl); iterate 4 exact rfl
  refine EU (n := 1) hw rfl rfl (Bw (k := 3) rfl) rfl (by decide) (by omega) fun A3 o3 N4 hw3 => ⟨_, rfl, ?_⟩
  refine wo ?_
  exact ⟨rfl, (i + 1, .sl A3 (i + 1) (i + 1) o3, N4, us ++ [[.sl A1 (x.key.take 32).length kc ko, .sl A2 (x.val.take 256).length vc vo, .b true]]), ⟨g1, g2, by rw [B5]; exact hw3, by rw [hnx]; exact mdRs_snoc ⟨_, _, _, _, _, _, rfl, by rw [decide_eq_true k0]⟩ hus hvl⟩, by dsimp only; omega, ⟨rfl, rfl, rfl, rfl, trivial⟩, fun hp h => h.le⟩
 ·have k0' : ¬ (x.val.take 256).length = 0 := fun h => k0 (hz.1 h)
  apply wm; iterate 5 exact rfl
  refine Af (v := .b false) rfl rfl (BW (by omega))
  refine wo ?_
  apply p_do; exact (Aa rfl); exact rfl; exact rfl
  refine e_st (C' := [.sl A1 (x.key.take 32).length kc ko, .sl A2 (x.val.take 256).length vc vo, .b false]) rfl rfl rfl (Io rfl) rfl ⟨_, rfl, ?_⟩
  refine wo ?_
  refine zX (AO (s := 2) (cs := [.sl A1 (x.key.take 32).length kc ko, .sl A2 (x.val.take 256).length vc vo, .b false]) rfl rfl rfl) ?_
  apply p_op; exact (Aa rfl); iterate 4 exact rfl
  refine Fl (C := [.sl A1 (x.key.take 32).length kc ko, .sl A2 (x.val.take 256).length vc vo, .b false]) (n := 1) (sz := 3) rfl rfl (by decide) (.cons rfl rfl rfl .nil) rfl rfl fun b1 => ⟨_, rfl, ?_⟩
  apply p_op; exact (Aa rfl); iterate 4 exact rfl
  refine EU (n := 1) hw rfl rfl (Bw (k := 3) rfl) rfl (by decide) (by omega) fun A3 o3 N4 hw3 => ⟨_, rfl, ?_⟩
  refine wo ?_
  exact ⟨rfl, (i + 1, .sl A3 (i + 1) (i + 1) o3, N4, us ++ [[.sl A1 (x.key.take 32).length kc ko, .sl A2 (x.val.take 256).length vc vo, .b false]]), ⟨g1, g2, by rw [B5]; exact hw3, by rw [hnx]; exact mdRs_snoc ⟨_, _, _, _, _, _, rfl, by rw [decide_eq_false k0]⟩ hus hvl⟩, by dsimp only; omega, ⟨rfl, rfl, rfl, rfl, trivial⟩, fun hp h => h.le⟩
/- Jsg: the statement's whole, books, fixed. By this project. -/
theorem bits_w {n : Int} {hp : Hp} (ho : OkH hp) : ∃ nb, nb = bitsN n ∧ 8 ≤ nb ∧ nb ≤ 256 ∧ Fn kxD 31 [.i .i64 n] hp [] fun r _ => r = .v (.i .i64 ((nb : Nat) : Int)) := ⟨_, rfl, by have := bitsN_le n; omega, by have := bitsN_le n; omega, bits_d ho⟩
theorem mv_wsub {K : Kx} {hp0 : Bs} {l : VL} {L : HV} {t t' : TypeId} {x y : Operand} {p q : Int} (hx : evL l x = some (.i .i64 p)) (hy : evL l y = some (.i .i64 q)) : MVO K hp0 l L (.binOp .sub t x y t') (.i .i64 (IntKind.i64.wrap (p - q))) := Af hx hy rfl
theorem new04_n {A : Option (Nat × Nat)} {xs : List UInt8} {bits cb c n : Nat} {op : Bool} {hp : Hp} (hn : xs.length = n) (ho : OkH hp) (hA : RB ⟨hp, []⟩ A (xs.map byV)) (hx : xs.length = 32) (b1 : 8 ≤ bits) (b2 : bits ≤ 256) (c1 : 8 ≤ cb) (c2 : cb ≤ 256) :
  Fn kxD 34 [.i .i64 (bits : Int), .i .i64 (cb : Int), .sl A n c op] hp [] fun r N => ∃ u, r = .v u ∧ ∃ b Z o M, u = .tup [.p (some (b, 0)), .i .i64 0] ∧ RowK xs (.sl Z n n o) M ∧ N = (some b, Am (rbC bits cb (.sl Z n n o) (.sl none 0 0 false)) 51) :: M := by
 subst hn
 exact new04_d ho hA hx b1 b2 c1 c2
theorem RowU.get {e : TypeId} {xs : List UInt8} {A : Option (Nat × Nat)} {n c : Nat} {op : Bool} {M : HV} (h : RowU e xs (.sl A n c op) M) (h0 : 0 < xs.length) : ∃ b oo, A = some (b, 0) ∧ M = [(some b, .cells (xs.map byV) e oo false)] := by
 cases h with
 | nil => simp at h0
 | own h => exact ⟨_, _, rfl, rfl⟩
set_option maxHeartbeats 8000000 in
theorem books_d {n : Int} {hp : Hp} (ho : OkH hp) :
  Fn kxD 7 [.i .i64 n] hp [] fun r N => ∃ u, r = .v u ∧ ∃ nb B b q Z o M, u = .tup [.p (some (b, 0)), .p (some (q, 0))] ∧ nb ≤ 256 ∧ BkSt B b 256 nb (secB []) [] [] [] ∧ RowK (secB []) (.sl Z 32 32 o) M ∧ N = bkL B ++ ((some q, Am (rbC 256 nb (.sl Z 32 32 o) (.sl none 0 0 false)) 51) :: M) := by
 have hsl := Gy []
 refine Fn.dropC ?_
 refine Au (T := []) ho.sv (fun _ => rfl) (fn := Tryz.f7) (by kernel_rfl) rfl rfl ?_
 refine wo ?_
 apply wm; iterate 5 exact rfl
 refine mv_wsub rfl rfl
 obtain ⟨nb, hnb, n1, n2, _⟩ := bits_w (n := IntKind.i64.wrap (n - 8)) ho
 have hb' : ∀ {hp : Hp}, OkH hp → Fn kxD 31 [.i .i64 (IntKind.i64.wrap (n - 8))] hp [] fun r _ => r = .v (.i .i64 ((nb : Nat) : Int)) := fun {hp} ho => by
  rw [hnb]
  exact bits_d ho
 refine AY (Aa rfl) rfl rfl rfl rfl (fun hp hs => hb' hs.ok) ?_
 refine wo ?_
 apply AU []; exact (Aa rfl); iterate 4 exact rfl
 case hC => exact (fun hp hs ht => secret_d (xs := []) hs.ok RB.nil)
 rintro u N ⟨bz, rfl, rfl⟩
 apply AU []; exact (Aa rfl); iterate 4 exact rfl
 case hC => exact (fun hp hs ht => new_s (bits := 256) (cb := nb) hsl hs.ok (DB hs (Ip (Nat.le_refl _))) hsl (by decide) (by decide) n1 n2)
 rintro u N ⟨b, B, rfl, hB, rfl⟩
 refine wo ?_
 apply AU []; exact (Aa rfl); iterate 4 exact rfl
 case hC => exact (fun hp hs ht => secret_d (xs := []) hs.ok RB.nil)
 rintro u N ⟨bz2, rfl, rfl⟩
 apply AU []; exact (Aa rfl); iterate 4 exact rfl
 case hC => exact (fun hp hs ht => new04_n (bits := 256) (cb := nb) hsl hs.ok (DB hs (Ip (Nat.le_refl _))) hsl (by decide) (by decide) n1 n2)
 rintro u N ⟨q, Z, o, M, rfl, hM, rfl⟩
 refine wo ?_
 apply wm; iterate 5 exact rfl
 refine Af (v := .b false) rfl rfl (AK ((by simp)))
 refine wo ?_
 apply wmg; iterate 7 exact rfl
 refine Af (v := .b false) rfl rfl (AK ((by simp)))
 refine wo ?_
 exact Ay (Ag (B8 (Ai rfl) (Ai rfl)) ⟨bkL B ++ ((some q, Am (rbC 256 nb (.sl Z 32 32 o) (.sl none 0 0 false)) 51) :: M), cle, _, rfl, nb, B, b, q, Z, o, M, rfl, n2, hB, hM, rfl⟩)
theorem m_sli {K : Kx} {hp0 : Bs} {l : VL} {L : HV} {t e : TypeId} {x : Operand} {lo hi : Option Operand} {b o m c i j : Nat} {op : Bool} [hS : SliceV K.C t e] [hs : SizeV K.C e 1] (hx : evL l x = some (.sl (some (b, o)) m c op)) (hlo : Bt l lo 0 i) (hhi : Bt l hi m j) (h1 : i ≤ j) (h2 : j ≤ c) (h3 : i < c) : MV K hp0 l L (.slice t x lo hi none) [] (.sl (some (b, o + i)) (j - i) (c - i) op) := by
 have := m_slg (K := K) (hp0 := hp0) (L := L) (t := t) (e := e) hx hlo hhi h1 h2 (fun _ => h3) (fun _ => ⟨_, rfl⟩)
 rw [Option.map_some, offV_ne (by omega), Nat.mul_one] at this
 exact this
def rec1 : Rec := ⟨1, 1, 0, List.replicate 32 0, List.replicate 32 0, []⟩
def rec2 : Rec := ⟨2, 300, 2, List.replicate 32 0, List.replicate 32 0, [⟨[18], [97], false⟩, ⟨[19], [], true⟩]⟩
theorem s_1 : Ax 1 = [1] := by rw [Cf (by decide), Bv]; rfl
theorem s_2 : Ax 2 = [2] := by rw [Cf (by decide), Bv]; rfl
theorem s_300 : Ax 300 = [1, 44] := by rw [Cf (by decide)]; show Ax 1 ++ _ = _; rw [s_1]; rfl
theorem s_70 : Ax 70 = [70] := by rw [Cf (by decide), Bv]; rfl
theorem s_77 : Ax 77 = [77] := by rw [Cf (by decide), Bv]; rfl
theorem Ge {base : UInt8} {n : Nat} (h : n < 56) : BA base n = [base + UInt8.ofNat n] := if_pos h
theorem h_70 : BA 192 70 = [248, 70] := by unfold BA; rw [if_neg (by decide), s_70]; rfl
theorem h_77 : BA 192 77 = [248, 77] := by unfold BA; rw [if_neg (by decide), s_77]; rfl
def z33 : List UInt8 := 160 :: List.replicate 32 0
theorem str_z : strB (List.replicate 32 0) = z33 := by rw [D7 (by decide), List.length_replicate, Ge (by decide)]; rfl
theorem str_1 : strB [1] = [1] := DN (by decide)
theorem str_2 : strB [2] = [2] := DN (by decide)
theorem str_0 : strB [] = [128] := by rw [D7 (by decide), List.append_nil]; exact Ge (by decide)
theorem str_300 : strB [1, 44] = [130, 1, 44] := by rw [D7 (by decide)]; show BA 128 2 ++ _ = _; rw [Ge (by decide)]; rfl
theorem body1 : Bo rec1 = [248, 70, 1, 1, 128] ++ z33 ++ z33 ++ [192] := by
 unfold Bo recT
 have e : encs (recK rec1) = [1, 1, 128] ++ z33 ++ z33 ++ [192] := by
  rw [recK_enc]
  show ((((strB (Ax 1) ++ strB (Ax 1)) ++ strB (Ax 0)) ++ strB (List.replicate 32 0)) ++ strB (List.replicate 32 0)) ++ (BA 192 (encs []).length ++ encs []) = _
  rw [s_1, Bv, str_z, str_1, str_0, encs, Ge (by decide)]
  rfl
 rw [Dj, e]
 show BA 192 70 ++ _ = _
 rw [h_70]
 rfl
theorem body2 : Bo rec2 = [248, 77, 2, 130, 1, 44, 2] ++ z33 ++ z33 ++ [197, 194, 18, 97, 193, 19] := by
 unfold Bo recT
 have k1 : encs (chgK ⟨[18], [97], false⟩) = [18, 97] := by rw [chgK_not (by decide)]; show strB [18] ++ strB [97] = _; rw [DN (by decide), DN (by decide)]; rfl
 have k2 : encs (chgK ⟨[19], [], true⟩) = [19] := by rw [chgK_gone rfl]; exact DN (by decide)
 have c0 : encs (rec2.ch.map chgT) = [194, 18, 97, 193, 19] := by
  show encs [chgT ⟨[18], [97], false⟩, chgT ⟨[19], [], true⟩] = _
  rw [encs, encs, encs, chgT, chgT, Dj, Dj, k1, k2, Ge (by decide), Ge (by decide)]
  rfl
 have e : encs (recK rec2) = [2, 130, 1, 44, 2] ++ z33 ++ z33 ++ [197, 194, 18, 97, 193, 19] := by
  rw [recK_enc, c0]
  show ((((strB (Ax 2) ++ strB (Ax 300)) ++ strB (Ax 2)) ++ strB (List.replicate 32 0)) ++ strB (List.replicate 32 0)) ++ (BA 192 5 ++ _) = _
  rw [s_2, s_300, str_z, str_2, str_300, Ge (by decide)]
  rfl
 rw [Dj, e]
 show BA 192 77 ++ _ = _
 rw [h_77]
 rfl
theorem may1 : mayR rec1 := by decide
theorem may2 : mayR rec2 := by decide
theorem ok1 : RecOk rec1 := ⟨rfl, rfl, by decide, by decide⟩
theorem ok2 : RecOk rec2 := ⟨rfl, rfl, by decide, by decide⟩
set_option maxHeartbeats 16000000 in
theorem jfixed_d {hp : Hp} (ho : OkH hp) (hk : KTab ⟨hp, []⟩) : Fn kxD 9 [] hp [] fun r _ => r = .v (.b true) := by
 refine Au (T := []) ho.sv (fun _ => rfl) (fn := Tryz.f9) (by kernel_rfl) rfl rfl ?_
 refine wo ?_
 apply wn; iterate 5 exact rfl
 refine Av (C := recC rec1 (.sl none 0 0 false)) (.cons rfl rfl rfl rfl (Io rfl) (.cons rfl rfl rfl rfl (Io rfl) .nil)) rfl
 apply AU []; exact (Aa rfl); iterate 4 exact rfl
 case hC => exact (fun hp hs ht => jbody_d (r := rec1) hs.ok (hk.give0 hs) ⟨ok1, none, 0, false, [], rfl, RB.nil, rfl⟩)
 rintro u N ⟨hg, _⟩
 obtain ⟨w1, rfl, hu1⟩ := hg may1
 rw [body1] at hu1
 obtain ⟨A1, o1, rfl⟩ := hu1.sl
 obtain ⟨b1, oo1, rfl, rfl⟩ := hu1.get (by decide)
 refine wo ?_
 apply p_op; exact (Aa rfl); iterate 4 exact rfl
 refine e_bs (C := [byV 18]) rfl rfl (.cons rfl rfl .nil) rfl fun c1 => ⟨_, rfl, ?_⟩
 apply p_op; exact (Aa rfl); iterate 4 exact rfl
 refine e_bs (C := [byV 97]) rfl rfl (.cons rfl rfl .nil) rfl fun c2 => ⟨_, rfl, ?_⟩
 apply p_op; exact (Aa rfl); iterate 4 exact rfl
 refine e_share rfl ⟨_, rfl, ?_⟩
 apply wn; iterate 5 exact rfl
 refine Av (C := [.sl (some (c1, 0)) 1 1 false, .sl (some (c2, 0)) 1 1 false, .b false]) (.cons rfl rfl rfl rfl (Io rfl) (.cons rfl rfl rfl rfl (Io rfl) .nil)) rfl
 apply p_op; exact (Aa rfl); iterate 4 exact rfl
 refine e_bs (C := [byV 19]) rfl rfl (.cons rfl rfl .nil) rfl fun c3 => ⟨_, rfl, ?_⟩
 apply wn; iterate 5 exact rfl
 refine Av (C := [.sl (some (c3, 0)) 1 1 false, .sl none 0 0 false, .b true]) (.cons rfl rfl rfl rfl (Io rfl) (.cons rfl rfl rfl rfl (Io rfl) .nil)) rfl
 apply p_op; exact (Aa rfl); iterate 4 exact rfl
 refine Fl (C := [.sl (some (c1, 0)) 1 1 false, .sl (some (c2, 0)) 1 1 false, .b false, .sl (some (c3, 0)) 1 1 false, .sl none 0 0 false, .b true]) (n := 2) (sz := 3) rfl rfl (by decide) (.cons rfl rfl rfl (.cons rfl rfl rfl .nil)) rfl rfl fun c4 => ⟨_, rfl, ?_⟩
 apply wn; iterate 5 exact rfl
 refine Av (C := recC rec2 (.sl (some (c4, 0)) 2 2 false)) (.cons rfl rfl rfl rfl (Io rfl) (.cons rfl rfl rfl rfl (Io rfl) (.cons rfl rfl rfl rfl (Io rfl) (.cons rfl rfl rfl rfl (Io rfl) .nil)))) rfl
 apply AU []; exact (Aa rfl); iterate 4 exact rfl
 case hC => exact (fun hp hs ht => jbody_d (r := rec2) hs.ok (hk.give0 hs) ⟨ok2, some (c4, 0), 2, false, [[.sl (some (c1, 0)) 1 1 false, .sl (some (c2, 0)) 1 1 false, .b false], [.sl (some (c3, 0)) 1 1 false, .sl none 0 0 false, .b true]], rfl, DB hs rfl, ⟨_, _, rfl, ⟨_, _, _, _, _, _, rfl, DB hs rfl, DB hs rfl⟩, ⟨_, _, rfl, ⟨_, _, _, _, _, _, rfl, DB hs rfl, RB.nil⟩, rfl⟩⟩⟩)
 rintro u N ⟨hg, _⟩
 obtain ⟨w2, rfl, hu2⟩ := hg may2
 rw [body2] at hu2
 obtain ⟨A2, o2, rfl⟩ := hu2.sl
 have e79 : ([248, 77, 2, 130, 1, 44, 2] ++ z33 ++ z33 ++ [197, 194, 18, 97, 193, 19] : List UInt8).length = 79 := rfl
 obtain ⟨b2, oo2, rfl, rfl⟩ := hu2.get (by decide)
 rw [e79]
 refine wo ?_
 apply wm; iterate 5 exact rfl
 refine Af (v := .b false) rfl rfl (AK ((by simp)))
 refine wo ?_
 apply wmg; iterate 7 exact rfl
 refine Af (v := .b false) rfl rfl (AK ((by simp)))
 refine wo ?_
 apply wmg; iterate 7 exact rfl
 refine Af (v := .b false) rfl rfl (AK ((by decide)))
 refine wo ?_
 refine zX (m_sl0 rfl Cj (BR rfl) (by decide)) ?_
 apply p_op; exact (BH rfl rfl rfl); iterate 4 exact rfl
 refine e_bs (C := [248, 70, 1, 1, 128, 160].map byV) rfl rfl (.cons rfl rfl (.cons rfl rfl (.cons rfl rfl (.cons rfl rfl (.cons rfl rfl (.cons rfl rfl .nil)))))) rfl fun d1 => ⟨_, rfl, ?_⟩
 refine AY (BH rfl rfl rfl) rfl rfl rfl rfl (fun hp hs => same_d (xs := [248, 70, 1, 1, 128, 160]) hs.ok (DB hs rfl) (DB hs rfl) (by decide)) ?_
 refine wo ?_
 apply wg; iterate 7 exact rfl
 refine p_ia (i := 71) rfl rfl (by decide)
 refine zX (Bi (v := byV 192) rfl rfl) ?_
 apply wmg; iterate 7 exact rfl
 refine Af (v := .b false) rfl rfl (AK ((by decide)))
 refine wo ?_
 apply wmg; iterate 7 exact rfl
 refine Af (v := .b false) rfl rfl (AF ((by decide)))
 refine wo ?_
 refine zX (m_sli (i := 2) (j := 7) rfl (BR rfl) (BR rfl) (by decide) (by decide) (by decide)) ?_
 apply p_op; exact (Aa rfl); iterate 4 exact rfl
 refine e_bs (C := [2, 130, 1, 44, 2].map byV) rfl rfl (.cons rfl rfl (.cons rfl rfl (.cons rfl rfl (.cons rfl rfl (.cons rfl rfl .nil))))) rfl fun d2 => ⟨_, rfl, ?_⟩
 refine AY (Aa rfl) rfl rfl rfl rfl (fun hp hs => same_d (xs := [2, 130, 1, 44, 2]) hs.ok (DB hs rfl) (DB hs rfl) (by decide)) ?_
 refine wo ?_
 refine zX (m_sli (i := 73) (j := 79) rfl (BR rfl) Cj (by decide) (by decide) (by decide)) ?_
 apply p_op; exact (BH rfl rfl rfl); iterate 4 exact rfl
 refine e_bs (C := [197, 194, 18, 97, 193, 19].map byV) rfl rfl (.cons rfl rfl (.cons rfl rfl (.cons rfl rfl (.cons rfl rfl (.cons rfl rfl (.cons rfl rfl .nil)))))) rfl fun d3 => ⟨_, rfl, ?_⟩
 refine AY (BH rfl rfl rfl) rfl rfl rfl rfl (fun hp hs => same_d (xs := [197, 194, 18, 97, 193, 19]) hs.ok (DB hs rfl) (DB hs rfl) (by decide)) ?_
 refine wo ?_
 exact Ay (Ag (AR (Ai rfl)) rfl)
/- Jt2: JournalTurned on the machine. By this project. -/
theorem jrdS_err {cb : Nat} {sec p : List UInt8} {e : Nat} (h : jrdS cb sec p = .error e) : e = 190 ∨ e = 191 := by
 unfold jrdS at h
 split at h
 ·obtain rfl := Except.error.inj h; exact .inl rfl
 ·split at h
  ·obtain rfl := Except.error.inj h; exact .inl rfl
  ·split at h
   ·obtain rfl := Except.error.inj h; exact .inl rfl
   ·split at h
    ·obtain rfl := Except.error.inj h; exact .inr rfl
    ·simp at h
theorem jrdS_ok {cb : Nat} {sec p : List UInt8} {r : Rec} {body code : List UInt8} (h : jrdS cb sec p = .ok (r, body, code)) : 32 ≤ p.length ∧ body ++ code = p ∧ code.length = 32 ∧ cutB cb (macB sec body) = code ∧ mayR r ∧ Bo r = body ∧ recS body = some r := by
 unfold jrdS at h
 split at h
 ·simp at h
 ·rename_i hl
  split at h
  ·simp at h
  ·rename_i r' hS
   split at h
   ·simp at h
   ·rename_i h1
    split at h
    ·simp at h
    ·rename_i h2
     simp only [Except.ok.injEq, Is] at h
     obtain ⟨rfl, rfl, rfl⟩ := h
     have h1' := not_or.1 h1
     exact ⟨by omega, List.take_append_drop _ _, by rw [List.length_drop]; omega, by simpa using h2, by simpa using h1'.1, by simpa using h1'.2, hS⟩
theorem set_ne {x : List UInt8} {k : Nat} {y : UInt8} (hk : k < x.length) (hy : y ≠ 0) : x.set k (x[k] + y) ≠ x := fun e => by
 have h1 : (x.set k (x[k] + y))[k]? = x[k]? := by rw [e]
 rw [List.getElem?_set_self hk, Iq hk] at h1
 simp only [Im] at h1
 exact hy (by simpa using h1)
theorem frameB_drop (x : List UInt8) : (DI x).drop 7 = x := by unfold DI flB; rfl
theorem frameB_len (x : List UInt8) : (DI x).length = x.length + 7 := by simp [DI, flB]
/- Dr11: a log's records, read. By this project. -/
structure EntS where
 r : Rec
 code : List UInt8
 b : Nat
 e : Nat
abbrev FS := List (List UInt8 × List UInt8)
def scanS (cb : Nat) (sec : List UInt8) (ca : List (List UInt8)) (log : List UInt8) : Nat → Nat → FS → List EntS → Option (List EntS × Nat × FS)
 | 0, _, _, _ => none
 | f + 1, at', fs, acc =>
  if at' < log.length then
   if (endS (log.drop at')).2 ≠ 0 then some (acc, (endS (log.drop at')).2, fs)
   else match jrdS cb sec (((log.drop at').drop 7).take ((endS (log.drop at')).1 - 7)) with
    | .error e => some (acc, e, fs)
    | .ok (r, body, code) => scanS cb sec ca log f (at' + (endS (log.drop at')).1) (if body ∉ ca then addF fs (body, code) else fs) (acc ++ [⟨r, code, at', at' + (endS (log.drop at')).1⟩])
  else some (acc, 0, fs)
def entC (w : List V) (e : EntS) : List V := w ++ (e.code.map byV ++ [.i .i64 (e.b : Nat), .i .i64 (e.e : Nat)])
def EntX (X : HV) (e : EntS) (v : List V) : Prop := ∃ w, v = entC w e ∧ RecX X e.r w ∧ e.code.length = 32
def HS (X : HV) : List EntS → List (List V) → Prop
 | [], vs => vs = []
 | c :: r, vs => ∃ v ws, vs = v :: ws ∧ EntX X c v ∧ HS X r ws
theorem recX_mono {X Y : HV} (hx : ∀ p ∈ X, p ∈ Y) {r : Rec} {v : List V} (h : RecX X r v) : RecX Y r v := by
 obtain ⟨h0, A, c, o, us, h1, h2, h3⟩ := h
 exact ⟨h0, A, c, o, us, h1, h2.mono hx, Hy hx h3⟩
theorem entX_mono {X Y : HV} (hx : ∀ p ∈ X, p ∈ Y) {e : EntS} {v : List V} (h : EntX X e v) : EntX Y e v := by
 obtain ⟨w, h1, h2, h3⟩ := h
 exact ⟨w, h1, recX_mono hx h2, h3⟩
theorem entXs_mono {X Y : HV} (hx : ∀ p ∈ X, p ∈ Y) : ∀ {l : List EntS} {vs : List (List V)}, HS X l vs → HS Y l vs
 | [], vs, h => h
 | x :: r, vs, h => by
  obtain ⟨v, ws, rfl, h1, h2⟩ := h
  exact ⟨v, ws, rfl, entX_mono hx h1, entXs_mono hx h2⟩
theorem entXs_snoc {X : HV} {c : EntS} {v : List V} (k : EntX X c v) : ∀ {l : List EntS} {vs : List (List V)}, HS X l vs → HS X (l ++ [c]) (vs ++ [v])
 | [], vs, h => by
  rw [HS] at h
  subst h
  exact ⟨v, [], rfl, k, rfl⟩
 | x :: r, vs, h => by
  obtain ⟨w, ws, rfl, h1, h2⟩ := h
  exact ⟨w, ws ++ [v], rfl, h1, entXs_snoc k h2⟩
theorem recX_len {X : HV} {r : Rec} {w : List V} (h : RecX X r w) : w.length = 68 := by
 obtain ⟨hok, _, _, _, _, rfl, _⟩ := h
 exact Dg hok
theorem entX_len {X : HV} {e : EntS} {v : List V} (h : EntX X e v) : v.length = 102 := by
 obtain ⟨w, rfl, h1, h2⟩ := h
 simp [entC, recX_len h1, h2]
abbrev zEC : List V := zRC ++ ((List.replicate 32 (0 : UInt8)).map byV ++ [.i .i64 0, .i .i64 0])
theorem ent_put {w c : List V} {x y : V} (hw : w.length = 68) (hc : c.length = 32) : DC zEC [(0, w), (68, c), (100, [x]), (101, [y])] = w ++ (c ++ [x, y]) := by
 show Cg (Cg (Cg (Cg zEC 0 w) 68 c) 100 [x]) 101 [y] = _
 have e1 : Cg zEC 0 w = w ++ ((List.replicate 32 (0 : UInt8)).map byV ++ [.i .i64 0, .i .i64 0]) := by
  unfold Cg
  rw [List.take_zero, List.nil_append, hw, Nat.zero_add]
  rfl
 have e2 : Cg (w ++ ((List.replicate 32 (0 : UInt8)).map byV ++ [.i .i64 0, .i .i64 0])) 68 c = w ++ (c ++ [.i .i64 0, .i .i64 0]) := by
  unfold Cg
  rw [List.take_append_of_le_length (by omega), Ip (by omega), hc, List.drop_append, List.drop_of_length_le (by omega), hw, List.nil_append, List.append_assoc]
  rfl
 have e3 : Cg (w ++ (c ++ [.i .i64 0, .i .i64 0])) 100 [x] = w ++ (c ++ [x, .i .i64 0]) := by
  unfold Cg
  rw [← List.append_assoc, List.take_append_of_le_length (by rw [List.length_append]; omega), Ip (by rw [List.length_append]; omega), List.drop_append, List.drop_of_length_le (by rw [List.length_append]; simp; omega), List.length_append, hw, hc]
  simp
 have e4 : Cg (w ++ (c ++ [x, .i .i64 0])) 101 [y] = w ++ (c ++ [x, y]) := by
  unfold Cg
  have e5 : w ++ (c ++ [x, .i .i64 0]) = (w ++ (c ++ [x])) ++ [.i .i64 0] := by simp
  rw [e5, List.take_append_of_le_length (by simp [hw, hc]), Ip (by simp [hw, hc]), List.drop_append, List.drop_of_length_le (by simp [hw, hc])]
  simp [hw, hc]
 rw [e1, e2, e3, e4]
set_option maxHeartbeats 32000000 in
theorem scan_d {B : Bk} {b bits cb : Nat} {sec : List UInt8} {ha ca : List (List UInt8)} {fs fs' : FS} {log : List UInt8} {A : Option (Nat × Nat)} {c F err : Nat} {o : Bool} {ents : List EntS} {hp : Hp} (hB : BkSt B b bits cb sec ha ca fs) (h0 : SV ⟨hp, hnds (bkL B)⟩ hp (bkL B)) (hk : Tab ⟨hp, hnds (bkL B)⟩) (hkk : KTab ⟨hp, hnds (bkL B)⟩) (hA : RB ⟨hp, hnds (bkL B)⟩ A (log.map byV)) (hc : log.length ≤ c) (hpl : log.length ≤ 1000000000) (hS : scanS cb sec ca log F 0 fs [] = some (ents, err, fs')) :
  Fn kxD 23 [.p (some (b, 0)), .sl A log.length c o] hp (hnds (bkL B)) fun r' N => ∃ u, r' = .v u ∧ ∃ w M X B' us, u = .tup [w, .i .i64 (err : Nat)] ∧ RowG 66 102 ents.length us.flatten w M ∧ HS X ents us ∧ BkSt B' b bits cb sec ha ca fs' ∧ N = (M ++ X) ++ bkL B' := by
 refine Fn.dropC ?_
 refine Au h0 (fun _ => rfl) (fn := Tryz.f23) (by kernel_rfl) rfl rfl ?_
 refine wo ?_
 apply wm; iterate 5 exact rfl
 refine m_eqp rfl rfl
 refine wo ?_
 iterate 4 ((try refine BM ?_); refine wo ?_)
 refine Bq (ι := Nat × Nat × V × HV × HV × Bk × FS × List EntS × List (List V)) (fun s => [(7, .i .i64 (s.1 : Nat)), (6, s.2.2.1), (1, .sl A log.length c o), (0, .p (some (b, 0)))]) (fun s => bkL s.2.2.2.2.2.1 ++ (s.2.2.2.1 ++ s.2.2.2.2.1)) (fun s => s.1 ≤ log.length ∧ s.2.2.2.2.2.2.2.1.length ≤ s.1 ∧ scanS cb sec ca log s.2.1 s.1 s.2.2.2.2.2.2.1 s.2.2.2.2.2.2.2.1 = some (ents, err, fs') ∧ RowG 66 102 s.2.2.2.2.2.2.2.1.length s.2.2.2.2.2.2.2.2.flatten s.2.2.1 s.2.2.2.1 ∧ HS s.2.2.2.2.1 s.2.2.2.2.2.2.2.1 s.2.2.2.2.2.2.2.2 ∧ BkSt s.2.2.2.2.2.1 b bits cb sec ha ca s.2.2.2.2.2.2.1) (fun s => log.length - s.1) (0, F, .sl none 0 0 false, [], [], B, fs, [], []) ⟨Nat.zero_le _, Nat.le_refl _, hS, .nil, rfl, hB⟩ ⟨rfl, rfl, rfl, rfl, trivial⟩ (fun hp h => h.le) ?_
 intro ⟨at', f, w, M, X, B1, fs1, acc, us⟩ ⟨hat, hal, hS, hw, hX, hB1⟩
 dsimp only at hat hal hS hw hX hB1 ⊢
 obtain ⟨Aw, ow, rfl⟩ := hw.sl
 cases f with
 | zero => simp [scanS] at hS
 | succ f => ?_
 rw [scanS] at hS
 refine wo ?_
 by_cases g : at' < log.length
 rotate_left
 ·rw [if_neg g] at hS
  simp only [Im, Is] at hS
  obtain ⟨rfl, rfl, rfl⟩ := hS
  apply wm; iterate 5 exact rfl
  refine Af (v := .b false) rfl rfl (AF (by omega))
  refine wo ?_
  refine Bd ?_
  refine wo ?_
  exact Ay (Ag (B8 (Ai rfl) (Ai rfl)) ⟨(M ++ X) ++ bkL B1, cle, _, rfl, _, M, X, B1, us, rfl, hw, hX, hB1, rfl⟩)
 rw [if_pos g] at hS
 obtain ⟨ba, oa, rfl⟩ := DT hA (by omega)
 obtain ⟨bs, hbs⟩ : ∃ bs, bs = log.drop at' := ⟨_, rfl⟩
 have hbl : log.length - at' = bs.length := by rw [hbs, List.length_drop]
 have hAb : RB ⟨hp, hnds (bkL B)⟩ (some (ba, oa + at')) (bs.map byV) := by
  have := hA.drop at'
  rw [← List.map_drop, ← hbs] at this
  exact this
 rw [← hbs] at hS
 apply wm; iterate 5 exact rfl
 refine Af (v := .b true) rfl rfl (AL (by omega))
 refine wo ?_
 refine zX (m_slD (i := at') (j := log.length) rfl (BR rfl) Cj (by omega) hc (by omega)) ?_
 rw [hbl]
 apply AU []; exact (Aa rfl); iterate 4 exact rfl
 case hC => exact (fun hp' hs ht => first_d hs.ok (hAb.give0 hs) (by omega) (by omega))
 rintro u N1 ⟨h1, h2⟩
 by_cases g1 : (endS bs).2 = 0
 rotate_left
 ·rw [if_pos g1] at hS
  simp only [Im, Is] at hS
  obtain ⟨rfl, rfl, rfl⟩ := hS
  obtain ⟨rfl, rfl⟩ := h1 g1
  refine wo ?_
  apply wm; iterate 5 exact rfl
  refine Af (v := .b true) rfl rfl (Cu (by omega))
  refine wo ?_
  exact Ay (Ag (B8 (Ai rfl) (Ai rfl)) ⟨(M ++ X) ++ bkL B1, cle, _, rfl, _, M, X, B1, us, rfl, hw, hX, hB1, rfl⟩)
 rw [if_neg (fun h => h g1)] at hS
 obtain ⟨bn, on, oo, rfl, rfl⟩ := h2 g1
 obtain ⟨q1, q2⟩ := endS_ok g1
 generalize (endS bs).1 = n at *
 obtain ⟨p, hpp⟩ : ∃ p, p = (bs.drop 7).take (n - 7) := ⟨_, rfl⟩
 have hpn : n - 7 = p.length := by rw [hpp, List.length_take, List.length_drop]; omega
 rw [← hpp] at hS ⊢
 refine wo ?_
 apply wm; iterate 5 exact rfl
 refine Af (v := .b false) rfl rfl (AK ((by simp)))
 refine wo ?_
 rw [hpn]
 apply Db (bkL B1); exact (Aa rfl); iterate 4 exact rfl
 case hC => exact (fun hp hs ht => jread_d hB1 ht (hk.give hs) (hkk.give hs) (rb_at hs (DM _)) (Nat.le_refl _) (by omega))
 rintro u NR hR
 cases hj : jrdS cb sec p with
 | error e =>
  rw [hj] at hR hS
  obtain ⟨rfl, B2, hB2, rfl⟩ := hR
  have he := jrdS_err hj
  simp only [Im, Is] at hS
  obtain ⟨rfl, rfl, rfl⟩ := hS
  refine wo ?_
  apply p_op; exact (Aa rfl); iterate 4 exact rfl
  refine As rfl fun b11 => ⟨_, rfl, ?_⟩
  apply p_op; exact (Aa rfl); iterate 4 exact rfl
  refine As rfl fun b12 => ⟨_, rfl, ?_⟩
  apply p_do; exact (Aa rfl); exact rfl; exact rfl
  refine AG (C' := zRC) rfl rfl (by simp [recC]) rfl (Io rfl) rfl ⟨_, rfl, ?_⟩
  apply p_do; exact (Aa rfl); exact rfl; exact rfl
  refine AG (C' := zH.map byV) rfl rfl (by simp) rfl (Io rfl) rfl ⟨_, rfl, ?_⟩
  refine wo ?_
  apply wm; iterate 5 exact rfl
  refine Af (v := .b true) rfl rfl (Cu (by omega))
  refine wo ?_
  exact Ay (Ag (B8 (Ai rfl) (Ai rfl)) ⟨(M ++ X) ++ bkL B2, cle, _, rfl, _, M, X, B2, us, rfl, hw, hX, hB2, rfl⟩)
 | ok v =>
  obtain ⟨r', body, code⟩ := v
  rw [hj] at hR hS
  obtain ⟨w', X', B2, rfl, hX', hB2, rfl⟩ := hR
  rw [List.append_assoc]
  dsimp only at hS
  obtain ⟨_, _, hcl2, _⟩ := jrdS_ok hj
  have hw68 := recX_len hX'
  have hwne : w' ≠ [] := fun e => by rw [e] at hw68; simp at hw68
  have hcl' : (code.map byV).length = 32 := by rw [List.length_map, hcl2]
  have hcn : code.map byV ≠ [] := fun e => by rw [e] at hcl'; simp at hcl'
  have hent : EntX X' ⟨r', code, at', at' + n⟩ (entC w' ⟨r', code, at', at' + n⟩) := ⟨w', rfl, hX', hcl2⟩
  have h102 := entX_len hent
  refine wo ?_
  apply p_op; exact (Aa rfl); iterate 4 exact rfl
  refine As rfl fun b11 => ⟨_, rfl, ?_⟩
  apply p_op; exact (Aa rfl); iterate 4 exact rfl
  refine As rfl fun b12 => ⟨_, rfl, ?_⟩
  apply p_do; exact (Aa rfl); exact rfl; exact rfl
  refine AG (C' := w') rfl rfl hwne hw68 (Io rfl) (by exact AC hw68) ⟨_, rfl, ?_⟩
  apply p_do; exact (Aa rfl); exact rfl; exact rfl
  refine AG (C' := code.map byV) rfl rfl hcn hcl' (Io rfl) (by exact AC hcl') ⟨_, rfl, ?_⟩
  refine wo ?_
  apply wm; iterate 5 exact rfl
  refine Af (v := .b false) rfl rfl (AK ((by simp)))
  refine wo ?_
  refine zX (AO (s := 67) (cs := w') rfl (by rw [List.drop_zero]; exact Ip (Nat.le_of_eq hw68)) hw68) ?_
  refine zX (AO (s := 31) (cs := code.map byV) rfl (by rw [List.drop_zero]; exact Ip (Nat.le_of_eq hcl')) hcl') ?_
  refine wo ?_
  apply wn; iterate 5 exact rfl
  refine Av (C := entC w' ⟨r', code, at', at' + n⟩) (.cons rfl rfl rfl hw68 (Io rfl) (.cons rfl rfl rfl hcl' (Io rfl) (.cons rfl rfl rfl rfl (Io rfl) (.cons rfl rfl rfl rfl (Io rfl) .nil)))) (ent_put hw68 hcl')
  apply p_op; exact (Aa rfl); iterate 4 exact rfl
  refine Fl (C := entC w' ⟨r', code, at', at' + n⟩) (n := 1) (sz := 102) rfl rfl (by decide) (.cons rfl rfl h102 .nil) (List.append_nil _) rfl fun b1 => ⟨_, rfl, ?_⟩
  apply p_op; exact (Aa rfl); iterate 4 exact rfl
  refine EU (ds := entC w' ⟨r', code, at', at' + n⟩) (n := 1) hw rfl rfl (Bw (k := 102) (by rw [List.drop_zero]; exact Ip (Nat.le_of_eq h102))) (by rw [h102]) (by decide) (by omega) fun A3 o3 N3 hw3 => ⟨_, rfl, ?_⟩
  refine wo ?_
  refine ⟨rfl, (at' + n, f, .sl A3 (acc.length + 1) (acc.length + 1) o3, N3, X' ++ X, B2, if body ∉ ca then addF fs1 (body, code) else fs1, acc ++ [⟨r', code, at', at' + n⟩], us ++ [entC w' ⟨r', code, at', at' + n⟩]), ⟨by dsimp only; omega, by simp; omega, hS, by rw [B5, List.length_append]; exact hw3, ?_, hB2⟩, by dsimp only; omega, ⟨rfl, rfl, rfl, rfl, trivial⟩, fun hp h => h.le⟩
  exact entXs_snoc (entX_mono (fun p hp => List.mem_append_left _ hp) hent) (entXs_mono (fun p hp => List.mem_append_right _ hp) hX)
/- Jb1: frames one behind the other, cut anywhere, read again, as plain law. By this project. -/
theorem frame_bytes (x : List UInt8) : ∃ a b c : UInt8, DI x = [202, a, b, c, 255 - a, 255 - b, 255 - c] ++ x ∧ a.toNat = x.length / 65536 % 256 ∧ b.toNat = x.length / 256 % 256 ∧ c.toNat = x.length % 256 :=
 ⟨UInt8.ofNat (x.length / 65536), UInt8.ofNat (x.length / 256), UInt8.ofNat x.length, rfl, UInt8.toNat_ofNat' .., UInt8.toNat_ofNat' .., UInt8.toNat_ofNat' ..⟩
theorem endS_bytes {a b c : UInt8} {r : List UInt8} : endS ([202, a, b, c, 255 - a, 255 - b, 255 - c] ++ r) = if 16384 < a.toNat * 65536 + b.toNat * 256 + c.toNat then (0, 90) else if r.length < a.toNat * 65536 + b.toNat * 256 + c.toNat then (0, 91) else (7 + (a.toNat * 65536 + b.toNat * 256 + c.toNat), 0) := by
 have hn : beN 0 ((([202, a, b, c, 255 - a, 255 - b, 255 - c] ++ r).drop 1).take 3) = a.toNat * 65536 + b.toNat * 256 + c.toNat := by
  show beN 0 [a, b, c] = _
  simp only [beN]
  omega
 have hl : ([202, a, b, c, 255 - a, 255 - b, 255 - c] ++ r).length = r.length + 7 := by simp
 unfold endS
 rw [hn, hl, if_neg (by omega), if_neg (by intro h; exact h rfl), if_neg (by omega), if_neg]
 ·by_cases g : 16384 < a.toNat * 65536 + b.toNat * 256 + c.toNat
  ·rw [if_pos g, if_pos g]
  ·rw [if_neg g, if_neg g]
   by_cases g2 : r.length < a.toNat * 65536 + b.toNat * 256 + c.toNat
   ·rw [if_pos g2, if_pos (by omega)]
   ·rw [if_neg g2, if_neg (by omega)]
 ·intro h
  apply h
  have e1 : bAt ([202, a, b, c, 255 - a, 255 - b, 255 - c] ++ r) 1 = a.toNat := rfl
  have e2 : bAt ([202, a, b, c, 255 - a, 255 - b, 255 - c] ++ r) 2 = b.toNat := rfl
  have e3 : bAt ([202, a, b, c, 255 - a, 255 - b, 255 - c] ++ r) 3 = c.toNat := rfl
  have e4 : bAt ([202, a, b, c, 255 - a, 255 - b, 255 - c] ++ r) 4 = (255 - a).toNat := rfl
  have e5 : bAt ([202, a, b, c, 255 - a, 255 - b, 255 - c] ++ r) 5 = (255 - b).toNat := rfl
  have e6 : bAt ([202, a, b, c, 255 - a, 255 - b, 255 - c] ++ r) 6 = (255 - c).toNat := rfl
  have := a.toNat_lt
  have := b.toNat_lt
  have := c.toNat_lt
  rw [e1, e2, e3, e4, e5, e6, GM, GM, GM]
  omega
theorem endS_frame {x r : List UInt8} (h : x.length ≤ 16384) : endS (DI x ++ r) = (x.length + 7, 0) := by
 obtain ⟨a, b, c, e, h1, h2, h3⟩ := frame_bytes x
 have hs : a.toNat * 65536 + b.toNat * 256 + c.toNat = x.length := by omega
 rw [e, List.append_assoc, endS_bytes, hs, if_neg (by omega), if_neg (by rw [List.length_append]; omega), Nat.add_comm]
theorem endS_cut {x : List UInt8} {k : Nat} (h : x.length ≤ 16384) (h0 : 0 < k) (hk : k < x.length + 7) : endS ((DI x).take k) = (0, 91) := by
 obtain ⟨a, b, c, e, h1, h2, h3⟩ := frame_bytes x
 have hs : a.toNat * 65536 + b.toNat * 256 + c.toNat = x.length := by omega
 by_cases g : 7 ≤ k
 ·have : (DI x).take k = [202, a, b, c, 255 - a, 255 - b, 255 - c] ++ x.take (k - 7) := by
   rw [e, List.take_append, Ip (by simpa using g)]
   rfl
  rw [this, endS_bytes, hs, if_neg (by omega), if_pos (by rw [List.length_take]; omega)]
 ·have hl : ((DI x).take k).length = k := by rw [List.length_take, frameB_len]; omega
  have hb : bAt ((DI x).take k) 0 = 202 := by
   obtain ⟨k', rfl⟩ : ∃ k', k = k' + 1 := ⟨k - 1, by omega⟩
   rw [e]
   rfl
  unfold endS
  rw [hl, hb, if_neg (by omega), if_neg (by simp), if_pos (by omega)]
def codF (cb : Nat) (sec : List UInt8) (m : Rec) : List UInt8 := cutB cb (macB sec (Bo m))
def frF (cb : Nat) (sec : List UInt8) (m : Rec) : List UInt8 := DI (Bo m ++ codF cb sec m)
def logF (cb : Nat) (sec : List UInt8) : List Rec → List UInt8
 | [] => []
 | m :: r => frF cb sec m ++ logF cb sec r
def endF (cb : Nat) (sec : List UInt8) : List Rec → Nat → List Nat
 | [], _ => []
 | m :: r, p => (p + (frF cb sec m).length) :: endF cb sec r (p + (frF cb sec m).length)
def cutE (cb : Nat) (sec : List UInt8) : List Rec → Nat → Nat → List EntS × Nat
 | [], _, _ => ([], 0)
 | m :: r, k, p => if k = 0 then ([], 0)
  else if (frF cb sec m).length ≤ k then (⟨m, codF cb sec m, p, p + (frF cb sec m).length⟩ :: (cutE cb sec r (k - (frF cb sec m).length) (p + (frF cb sec m).length)).1, (cutE cb sec r (k - (frF cb sec m).length) (p + (frF cb sec m).length)).2)
  else ([], 91)
section
variable {cb : Nat} {sec : List UInt8}
theorem FJ (m : Rec) : (codF cb sec m).length = 32 := by unfold codF; rw [Dk, H7]
theorem frF_len (m : Rec) : (frF cb sec m).length = (Bo m).length + 39 := by unfold frF; rw [frameB_len, List.length_append, FJ]
theorem logF_app : ∀ (l r : List Rec), logF cb sec (l ++ r) = logF cb sec l ++ logF cb sec r
 | [], r => rfl
 | m :: l, r => by rw [List.cons_append, logF, logF, logF_app l r, List.append_assoc]
theorem endF_app : ∀ (l r : List Rec) (p : Nat), endF cb sec (l ++ r) p = endF cb sec l p ++ endF cb sec r (p + (logF cb sec l).length)
 | [], r, p => rfl
 | m :: l, r, p => by rw [List.cons_append, endF, endF, endF_app l r, logF, List.length_append, List.cons_append, Nat.add_assoc]
theorem endF_len : ∀ (l : List Rec) (p : Nat), (endF cb sec l p).length = l.length
 | [], p => rfl
 | m :: l, p => by rw [endF, List.length_cons, List.length_cons, endF_len l]
theorem jrdS_back {m : Rec} (hok : RecOk m) (hm : mayR m) : jrdS cb sec (Bo m ++ codF cb sec m) = .ok (m, Bo m, codF cb sec m) := by
 have hl := FJ (cb := cb) (sec := sec) m
 have h1 : (Bo m ++ codF cb sec m).length - 32 = (Bo m).length := by rw [List.length_append]; omega
 unfold jrdS
 rw [if_neg (by rw [List.length_append]; omega), h1, List.take_left, List.drop_left, recS_body hok hm]
 dsimp only
 rw [if_neg (by simp [hm]), if_neg (by simp [codF])]
theorem scan_cut {ca : List (List UInt8)} : ∀ (ms : List Rec) {pre : List UInt8} {k f : Nat} {acc : List EntS}, (∀ m ∈ ms, RecOk m ∧ mayR m ∧ Bo m ∈ ca) → k ≤ (logF cb sec ms).length → k + 1 ≤ f →
  scanS cb sec ca (pre ++ (logF cb sec ms).take k) f pre.length [] acc = some (acc ++ (cutE cb sec ms k pre.length).1, (cutE cb sec ms k pre.length).2, [])
 | [], pre, k, f, acc, hm, hk, hf => by
  obtain ⟨F, rfl⟩ : ∃ F, f = F + 1 := ⟨f - 1, by omega⟩
  rw [logF] at hk ⊢
  rw [scanS, cutE, List.take_nil, List.append_nil, List.append_nil, if_neg (Nat.lt_irrefl _)]
 | m :: r, pre, k, f, acc, hm, hk, hf => by
  obtain ⟨F, rfl⟩ : ∃ F, f = F + 1 := ⟨f - 1, by omega⟩
  obtain ⟨h1, h2, h3⟩ := hm m List.mem_cons_self
  have hb := FK h1 h2
  have hcl := FJ (cb := cb) (sec := sec) m
  have hfl := frF_len (cb := cb) (sec := sec) m
  have hxl : (Bo m ++ codF cb sec m).length = (Bo m).length + 32 := by rw [List.length_append, hcl]
  rw [cutE]
  by_cases g0 : k = 0
  ·subst g0
   rw [if_pos rfl, scanS, List.take_zero, List.append_nil, if_neg (Nat.lt_irrefl _), List.append_nil]
  rw [if_neg g0]
  rw [logF, List.length_append] at hk
  have hlt : pre.length < (pre ++ (logF cb sec (m :: r)).take k).length := by
   rw [List.length_append, List.length_take, logF, List.length_append]
   omega
  rw [scanS, if_pos hlt, drop_app]
  by_cases g1 : (frF cb sec m).length ≤ k
  ·have e1 : (logF cb sec (m :: r)).take k = frF cb sec m ++ (logF cb sec r).take (k - (frF cb sec m).length) := by
    rw [logF, List.take_append, Ip g1]
   have e2 : endS (frF cb sec m ++ (logF cb sec r).take (k - (frF cb sec m).length)) = ((frF cb sec m).length, 0) := by
    rw [hfl]
    unfold frF
    rw [endS_frame (by omega), hxl]
   rw [if_pos g1, e1, e2]
   have e3 : ((frF cb sec m ++ (logF cb sec r).take (k - (frF cb sec m).length)).drop 7).take ((frF cb sec m).length - 7) = Bo m ++ codF cb sec m := by
    have e4 : (frF cb sec m ++ (logF cb sec r).take (k - (frF cb sec m).length)).drop 7 = (Bo m ++ codF cb sec m) ++ (logF cb sec r).take (k - (frF cb sec m).length) := by
     rw [List.drop_append_of_le_length (by omega)]
     unfold frF
     rw [frameB_drop]
    rw [e4, show (frF cb sec m).length - 7 = (Bo m ++ codF cb sec m).length by omega, List.take_left]
   rw [if_neg (by simp), e3, jrdS_back h1 h2]
   dsimp only
   rw [if_neg (fun h => h h3), ← List.append_assoc, show pre.length + (frF cb sec m).length = (pre ++ frF cb sec m).length by rw [List.length_append]]
   rw [scan_cut r (fun m hm' => hm m (List.mem_cons_of_mem _ hm')) (by omega) (by omega), List.append_assoc]
   rfl
  ·have e1 : (logF cb sec (m :: r)).take k = (frF cb sec m).take k := by
    rw [logF, List.take_append_of_le_length (by omega)]
   have e2 : endS ((frF cb sec m).take k) = (0, 91) := by
    unfold frF
    exact endS_cut (by omega) (by omega) (by omega)
   rw [if_neg g1, e1, e2, if_pos (by simp), List.append_nil]
theorem cutE_ends : ∀ (ms : List Rec) {k p : Nat}, k ≤ (logF cb sec ms).length →
  (cutE cb sec ms k p).1.length ≤ ms.length ∧ (∀ j, j < (cutE cb sec ms k p).1.length → ∃ e, (endF cb sec ms p)[j]? = some e ∧ e ≤ p + k) ∧ ((cutE cb sec ms k p).1.length < ms.length → ∃ e, (endF cb sec ms p)[(cutE cb sec ms k p).1.length]? = some e ∧ p + k < e) ∧
  ((cutE cb sec ms k p).2 = 0 ∨ (cutE cb sec ms k p).2 = 91) ∧ ((cutE cb sec ms k p).2 = 0 ↔ k = 0 ∨ (0 < (cutE cb sec ms k p).1.length ∧ (endF cb sec ms p)[(cutE cb sec ms k p).1.length - 1]? = some (p + k)))
 | [], k, p, hk => by
  have : k = 0 := by simpa [logF] using hk
  subst this
  simp [cutE]
 | m :: r, k, p, hk => by
  have hfl := frF_len (cb := cb) (sec := sec) m
  rw [logF, List.length_append] at hk
  rw [cutE]
  by_cases g0 : k = 0
  ·subst g0
   rw [if_pos rfl]
   refine ⟨Nat.zero_le _, fun j hj => by simp at hj, fun _ => ⟨p + (frF cb sec m).length, rfl, by omega⟩, .inl rfl, ⟨fun _ => .inl rfl, fun _ => rfl⟩⟩
  rw [if_neg g0]
  by_cases g1 : (frF cb sec m).length ≤ k
  ·rw [if_pos g1]
   obtain ⟨i1, i2, i3, i4, i5⟩ := cutE_ends r (k := k - (frF cb sec m).length) (p := p + (frF cb sec m).length) (by omega)
   have hpk : p + (frF cb sec m).length + (k - (frF cb sec m).length) = p + k := by omega
   rw [hpk] at i2 i3 i5
   dsimp only
   rw [List.length_cons, List.length_cons, endF]
   refine ⟨by omega, fun j hj => ?_, fun h => ?_, i4, ?_⟩
   ·cases j with
    | zero => exact ⟨_, rfl, by omega⟩
    | succ j =>
     obtain ⟨e, h1, h2⟩ := i2 j (by omega)
     exact ⟨e, by simpa using h1, h2⟩
   ·obtain ⟨e, h1, h2⟩ := i3 (by omega)
    exact ⟨e, by simpa using h1, h2⟩
   ·rw [i5]
    constructor
    ·rintro (h | ⟨h1, h2⟩)
     ·refine .inr ⟨by omega, ?_⟩
      have hz : (cutE cb sec r (k - (frF cb sec m).length) (p + (frF cb sec m).length)).1.length = 0 := by
       rw [h]
       cases r <;> simp [cutE]
      rw [hz]
      simp
      omega
     ·refine .inr ⟨by omega, ?_⟩
      obtain ⟨n, hn⟩ : ∃ n, (cutE cb sec r (k - (frF cb sec m).length) (p + (frF cb sec m).length)).1.length = n + 1 := ⟨_, (Nat.succ_pred_eq_of_pos h1).symm⟩
      rw [hn] at h2 ⊢
      simpa using h2
    ·rintro (h | ⟨h1, h2⟩)
     ·exact absurd h g0
     ·by_cases hz : (cutE cb sec r (k - (frF cb sec m).length) (p + (frF cb sec m).length)).1.length = 0
      ·rw [hz] at h2
       simp at h2
       exact .inl (by omega)
      ·obtain ⟨n, hn⟩ : ∃ n, (cutE cb sec r (k - (frF cb sec m).length) (p + (frF cb sec m).length)).1.length = n + 1 := ⟨_, (Nat.succ_pred_eq_of_pos (by omega)).symm⟩
       rw [hn] at h2 ⊢
       exact .inr ⟨by omega, by simpa using h2⟩
  ·rw [if_neg g1]
   refine ⟨Nat.zero_le _, fun j hj => by simp at hj, fun _ => ⟨p + (frF cb sec m).length, rfl, by omega⟩, .inr rfl, ⟨fun h => by simp at h, fun h => ?_⟩⟩
   rcases h with h | ⟨h, _⟩
   ·exact absurd h g0
   ·simp at h
theorem cutE_at : ∀ (ms : List Rec) {k p j : Nat} {x : EntS}, (cutE cb sec ms k p).1[j]? = some x → ∃ m e, ms[j]? = some m ∧ (endF cb sec ms p)[j]? = some e ∧ x = ⟨m, codF cb sec m, if j = 0 then p else ((endF cb sec ms p)[j - 1]?).getD 0, e⟩
 | [], k, p, j, x, h => by simp [cutE] at h
 | m :: r, k, p, j, x, h => by
  rw [cutE] at h
  split at h
  ·simp at h
  ·split at h
   ·cases j with
    | zero =>
     simp only [List.getElem?_cons_zero, Im] at h
     subst h
     exact ⟨m, _, rfl, rfl, rfl⟩
    | succ j =>
     simp only [List.getElem?_cons_succ] at h
     obtain ⟨m', e, h1, h2, h3⟩ := cutE_at r h
     refine ⟨m', e, by simpa using h1, by rw [endF]; simpa using h2, ?_⟩
     rw [h3, endF]
     cases j with
     | zero => simp
     | succ j => simp
   ·simp at h
end
/- Jb2: JournalBack on the machine. By this project. -/
def mdR : List Rec → Nat → List Rec
 | [], _ => []
 | r :: l, i => BJ r (i + 2) :: mdR l (i + 1)
theorem mdR_len : ∀ (l : List Rec) (i : Nat), (mdR l i).length = l.length
 | [], _ => rfl
 | r :: l, i => by rw [mdR, List.length_cons, List.length_cons, mdR_len l]
theorem mdR_snoc {r : Rec} : ∀ (l : List Rec) (i : Nat), mdR (l ++ [r]) i = mdR l i ++ [BJ r (i + l.length + 2)]
 | [], i => rfl
 | x :: l, i => by rw [List.cons_append, mdR, mdR, mdR_snoc l, List.cons_append, List.length_cons, show i + 1 + l.length + 2 = i + (l.length + 1) + 2 by omega]
theorem mdR_mem : ∀ {l : List Rec} {i : Nat} {m : Rec}, m ∈ mdR l i → ∃ r n, r ∈ l ∧ m = BJ r n ∧ 2 ≤ n ∧ n ≤ i + l.length + 2
 | [], i, m, h => by simp [mdR] at h
 | x :: l, i, m, h => by
  rw [mdR] at h
  rcases List.mem_cons.1 h with rfl | h
  ·exact ⟨x, i + 2, List.mem_cons_self, rfl, by omega, by omega⟩
  ·obtain ⟨r, n, h1, h2, h3, h4⟩ := mdR_mem h
   exact ⟨r, n, List.mem_cons_of_mem _ h1, h2, h3, by rw [List.length_cons]; omega⟩
def caF (l : List Rec) : List (List UInt8) := l.foldl (fun a m => addS a (Bo m)) []
theorem caF_snoc (l : List Rec) (m : Rec) : caF (l ++ [m]) = addS (caF l) (Bo m) := by unfold caF; rw [List.foldl_append]; rfl
theorem addS_all {a : List (List UInt8)} {x : List UInt8} : x ∈ addS a x ∧ (∀ y ∈ a, y ∈ addS a x) ∧ (addS a x).length ≤ a.length + 1 := by
 unfold addS
 split
 ·exact ⟨by assumption, fun y h => h, by omega⟩
 ·exact ⟨by simp, fun y h => by simp [h], by simp⟩
theorem caF_all (l : List Rec) : (∀ m ∈ l, Bo m ∈ caF l) ∧ (caF l).length ≤ l.length := by
 have key : ∀ (k : List Rec) (a : List (List UInt8)), (∀ y ∈ a, y ∈ k.foldl (fun a m => addS a (Bo m)) a) ∧ (∀ m ∈ k, Bo m ∈ k.foldl (fun a m => addS a (Bo m)) a) ∧ (k.foldl (fun a m => addS a (Bo m)) a).length ≤ a.length + k.length := by
  intro k
  induction k with
  | nil => intro a; exact ⟨fun y h => h, fun m h => by simp at h, by simp⟩
  | cons m k ih =>
   intro a
   obtain ⟨h1, h2, h3⟩ := ih (addS a (Bo m))
   obtain ⟨g1, g2, g3⟩ := addS_all (a := a) (x := Bo m)
   refine ⟨fun y h => h1 _ (g2 y h), fun m' h => ?_, by simp only [List.foldl_cons, List.length_cons]; omega⟩
   rcases List.mem_cons.1 h with rfl | h
   ·exact h1 _ g1
   ·exact h2 m' h
 obtain ⟨_, h2, h3⟩ := key l []
 exact ⟨h2, by simpa [caF] using h3⟩
def RecQ (B : Bs) (r : Rec) (v : List V) : Prop := RecOk r ∧ ∃ A c o ws, v = recC r (.sl A r.ch.length c o) ∧ RB B A ws.flatten ∧ Fq B r.ch ws ∧ ∀ x ∈ ws, CapC x
def RecQs (B : Bs) : List Rec → List (List V) → Prop
 | [], vs => vs = []
 | r :: l, vs => ∃ v us, vs = v :: us ∧ RecQ B r v ∧ RecQs B l us
theorem recQs_at {B : Bs} : ∀ {l : List Rec} {vs : List (List V)} {i : Nat} {t : Rec}, RecQs B l vs → l[i]? = some t → ∃ v, vs[i]? = some v ∧ RecQ B t v
 | [], _, _, _, _, hi => by simp at hi
 | x :: r, vs, 0, t, h, hi => by
  obtain ⟨v, ws, rfl, h1, _⟩ := h
  simp only [List.getElem?_cons_zero, Im] at hi
  subst hi
  exact ⟨v, rfl, h1⟩
 | x :: r, vs, i + 1, t, h, hi => by
  obtain ⟨v, ws, rfl, _, h2⟩ := h
  have := recQs_at (i := i) (t := t) h2 (by simpa using hi)
  simpa using this
theorem recQ_len {B : Bs} {r : Rec} {v : List V} (h : RecQ B r v) : v.length = 68 := by
 obtain ⟨hok, _, _, _, _, rfl, _⟩ := h
 exact Dg hok
theorem recQs_rows {B : Bs} : ∀ {l : List Rec} {vs : List (List V)}, RecQs B l vs → ∀ x ∈ vs, x.length = 68
 | [], vs, h, x, hx => by rw [RecQs] at h; subst h; simp at hx
 | t :: r, vs, h, x, hx => by
  obtain ⟨v, ws, rfl, h1, h2⟩ := h
  rcases List.mem_cons.1 hx with rfl | hx
  ·exact recQ_len h1
  ·exact recQs_rows h2 x hx
def BkR (B : Bs) (X : HV) (m : Rec) (u : List V) : Prop := ∃ r n ws, m = BJ r n ∧ RecOk r ∧ Fq B r.ch ws ∧ MadeX X r n ws u
def BkRs (B : Bs) (X : HV) : List Rec → List (List V) → Prop
 | [], us => us = []
 | m :: l, us => ∃ u xs, us = u :: xs ∧ BkR B X m u ∧ BkRs B X l xs
theorem madeX_mono {X Y : HV} (hx : ∀ p ∈ X, p ∈ Y) {r : Rec} {n : Nat} {vs : List (List V)} {w : List V} (h : MadeX X r n vs w) : MadeX Y r n vs w := by
 obtain ⟨A, o, us, h0, h1, h2⟩ := h
 exact ⟨A, o, us, h0, h1.mono hx, h2⟩
theorem bkR_mono {B : Bs} {X Y : HV} (hx : ∀ p ∈ X, p ∈ Y) {m : Rec} {u : List V} (h : BkR B X m u) : BkR B Y m u := by
 obtain ⟨r, n, ws, h1, h2, h3, h4⟩ := h
 exact ⟨r, n, ws, h1, h2, h3, madeX_mono hx h4⟩
theorem bkRs_mono {B : Bs} {X Y : HV} (hx : ∀ p ∈ X, p ∈ Y) : ∀ {l : List Rec} {us : List (List V)}, BkRs B X l us → BkRs B Y l us
 | [], us, h => h
 | m :: l, us, h => by
  obtain ⟨u, xs, rfl, h1, h2⟩ := h
  exact ⟨u, xs, rfl, bkR_mono hx h1, bkRs_mono hx h2⟩
theorem bkRs_snoc {B : Bs} {X : HV} {m : Rec} {u : List V} (k : BkR B X m u) : ∀ {l : List Rec} {us : List (List V)}, BkRs B X l us → BkRs B X (l ++ [m]) (us ++ [u])
 | [], us, h => by
  rw [BkRs] at h
  subst h
  exact ⟨u, [], rfl, k, rfl⟩
 | x :: l, us, h => by
  obtain ⟨w, xs, rfl, h1, h2⟩ := h
  exact ⟨w, xs ++ [u], rfl, h1, bkRs_snoc k h2⟩
theorem madeX_len {X : HV} {r : Rec} {n : Nat} {vs : List (List V)} {w : List V} (hok : RecOk r) (h : MadeX X r n vs w) : w.length = 68 := by
 obtain ⟨_, _, _, rfl, _⟩ := h
 exact Dg (GR hok)
theorem bkRs_at {B : Bs} {X : HV} : ∀ {l : List Rec} {us : List (List V)} {i : Nat} {m : Rec}, BkRs B X l us → l[i]? = some m → ∃ u, us[i]? = some u ∧ BkR B X m u
 | [], _, _, _, _, hi => by simp at hi
 | x :: r, us, 0, t, h, hi => by
  obtain ⟨v, ws, rfl, h1, _⟩ := h
  simp only [List.getElem?_cons_zero, Im] at hi
  subst hi
  exact ⟨v, rfl, h1⟩
 | x :: r, us, i + 1, t, h, hi => by
  obtain ⟨v, ws, rfl, _, h2⟩ := h
  have := bkRs_at (i := i) (m := t) h2 (by simpa using hi)
  simpa using this
theorem bkRs_rows {B : Bs} {X : HV} : ∀ {l : List Rec} {us : List (List V)}, BkRs B X l us → ∀ x ∈ us, x.length = 68
 | [], us, h, x, hx => by rw [BkRs] at h; subst h; simp at hx
 | t :: r, us, h, x, hx => by
  obtain ⟨v, ws, rfl, ⟨r, n, ws', _, h1, _, h4⟩, h2⟩ := h
  rcases List.mem_cons.1 hx with rfl | hx
  ·exact madeX_len h1 h4
  ·exact bkRs_rows h2 x hx
theorem recQs_ok {B : Bs} : ∀ {l : List Rec} {vs : List (List V)}, RecQs B l vs → ∀ r ∈ l, RecOk r
 | [], vs, h, x, hx => by simp at hx
 | t :: r, vs, h, x, hx => by
  obtain ⟨v, ws, rfl, h1, h2⟩ := h
  rcases List.mem_cons.1 hx with rfl | hx
  ·exact h1.1
  ·exact recQs_ok h2 x hx
theorem mdR_all {rs : List Rec} {i : Nat} (h : ∀ r ∈ rs, RecOk r) (hi : i ≤ 30) : ∀ m ∈ mdR (rs.take i) 0, RecOk m ∧ mayR m := fun m hm => by
 obtain ⟨r, n, h1, rfl, h3, h4⟩ := mdR_mem hm
 rw [List.length_take] at h4
 exact ⟨GR (h r (List.mem_of_mem_take h1)), madeR_may h3 (by omega)⟩
theorem logF_le {cb : Nat} {sec : List UInt8} : ∀ {l : List Rec}, (∀ m ∈ l, RecOk m ∧ mayR m) → (logF cb sec l).length ≤ l.length * 12200
 | [], _ => Nat.zero_le _
 | m :: l, h => by
  have h1 := logF_le (cb := cb) (sec := sec) fun m hm => h m (List.mem_cons_of_mem _ hm)
  have h2 := FK (h m List.mem_cons_self).1 (h m List.mem_cons_self).2
  have h3 := frF_len (cb := cb) (sec := sec) m
  rw [logF, List.length_append, List.length_cons]
  omega
theorem rb_ne {B : Bs} {A : Option (Nat × Nat)} {cs : List V} (h : RB B A cs) (hn : 0 < cs.length) : ∃ b o, A = some (b, o) := by
 cases hq : cs with
 | nil => rw [hq] at hn; simp at hn
 | cons v r =>
  rw [hq] at h
  exact Cw h.1.rv
theorem m_slR {K : Kx} {hp0 : Bs} {l : VL} {L : HV} {t e E : TypeId} {x : Operand} {lo hi : Option Operand} {A : Option (Nat × Nat)} {xs : List UInt8} {m j : Nat} {op : Bool} {M : HV} [hS : SliceV K.C t e] [hs : SizeV K.C e 1] (h : RowU E xs (.sl A m m op) M) (hx : evL l x = some (.sl A m m op)) (hlo : Bt l lo 0 0) (hhi : Bt l hi m j) (hj : j ≤ m) : MV K hp0 l L (.slice t x lo hi none) [] (.sl A j m op) := by
 cases h with
 | nil =>
  obtain rfl : j = 0 := by omega
  exact m_sl (A := none) hx hlo hhi (Nat.le_refl _) (Nat.le_refl _)
 | own h => exact m_sl0 hx hlo hhi hj
theorem entXs_at {X : HV} : ∀ {l : List EntS} {us : List (List V)} {i : Nat} {m : EntS}, HS X l us → l[i]? = some m → ∃ u, us[i]? = some u ∧ EntX X m u
 | [], _, _, _, _, hi => by simp at hi
 | x :: r, us, 0, t, h, hi => by
  obtain ⟨v, ws, rfl, h1, _⟩ := h
  simp only [List.getElem?_cons_zero, Im] at hi
  subst hi
  exact ⟨v, rfl, h1⟩
 | x :: r, us, i + 1, t, h, hi => by
  obtain ⟨v, ws, rfl, _, h2⟩ := h
  have := entXs_at (i := i) (m := t) h2 (by simpa using hi)
  simpa using this
theorem entXs_rows {X : HV} : ∀ {l : List EntS} {us : List (List V)}, HS X l us → ∀ x ∈ us, x.length = 102
 | [], us, h, x, hx => by rw [HS] at h; subst h; simp at hx
 | t :: r, us, h, x, hx => by
  obtain ⟨v, ws, rfl, h1, h2⟩ := h
  rcases List.mem_cons.1 hx with rfl | hx
  ·exact entX_len h1
  ·exact entXs_rows h2 x hx
theorem entC_parts {cs w : List V} {e : EntS} {a : Nat} (h : (cs.drop a).take 102 = entC w e) (hw : w.length = 68) (hc : e.code.length = 32) : (cs.drop a).take 68 = w ∧ (cs.drop (a + 68)).take 32 = e.code.map byV ∧ cs[a + 100]? = some (.i .i64 (e.b : Nat)) ∧ cs[a + 101]? = some (.i .i64 (e.e : Nat)) := by
 have hcl : (e.code.map byV).length = 32 := by rw [List.length_map, hc]
 have h1 : ∀ j, j < 102 → cs[a + j]? = (entC w e)[j]? := fun j hj => by rw [← h, List.getElem?_take, if_pos hj, List.getElem?_drop]
 refine ⟨?_, ?_, ?_, ?_⟩
 ·have : (cs.drop a).take 68 = ((cs.drop a).take 102).take 68 := by rw [List.take_take]; rfl
  rw [this, h, entC, List.take_append_of_le_length (by omega), Ip (by omega)]
 ·have : (cs.drop (a + 68)).take 32 = (((cs.drop a).take 102).drop 68).take 32 := by
   rw [List.drop_take, List.drop_drop, List.take_take]
   rfl
  rw [this, h, entC, List.drop_append, List.drop_of_length_le (by omega), List.nil_append, hw, Nat.sub_self, List.drop_zero, List.take_append_of_le_length (by omega), Ip (by omega)]
 ·rw [h1 100 (by decide), entC, List.getElem?_append_right (by omega), hw, List.getElem?_append_right (by omega), hcl]
  rfl
 ·rw [h1 101 (by decide), entC, List.getElem?_append_right (by omega), hw, List.getElem?_append_right (by omega), hcl]
  rfl
structure BkS where
 i : Nat
 wl : V
 ml : HV
 wt : V
 mt : HV
 we : V
 me : HV
 wr : V
 mr : HV
 x : HV
 B : Bk
 us : List (List V)
structure BkI (B0 : Bs) (b cb : Nat) (rs : List Rec) (s : BkS) : Prop where
 i : s.i ≤ rs.length
 i30 : s.i ≤ 30
 l : RowK (logF cb (secB []) (mdR (rs.take s.i) 0)) s.wl s.ml
 t : RowG 23 32 s.i ((mdR (rs.take s.i) 0).map fun m => (codF cb (secB []) m).map byV).flatten s.wt s.mt
 e : RowG 3 1 s.i ((endF cb (secB []) (mdR (rs.take s.i) 0) 0).map fun (e : Nat) => V.i .i64 (e : Nat)) s.we s.me
 r : RowG 26 68 s.i s.us.flatten s.wr s.mr
 x : BkRs B0 s.x (mdR (rs.take s.i) 0) s.us
 B : BkSt s.B b 256 cb (secB []) [] (caF (mdR (rs.take s.i) 0)) []
set_option maxHeartbeats 64000000 in
theorem back_d {rs : List Rec} {A : Option (Nat × Nat)} {c : Nat} {o : Bool} {vs : List (List V)} {z : Int} {hp : Hp} (ho : OkH hp) (hk : Tab ⟨hp, []⟩) (hkk : KTab ⟨hp, []⟩) (hA : RB ⟨hp, []⟩ A vs.flatten) (hvs : RecQs ⟨hp, []⟩ rs vs) :
  Fn kxD 5 [.sl A rs.length c o, .i .i64 z] hp [] fun r' _ => r' = .v (.b true) := by
 refine Au (T := []) ho.sv (fun _ => rfl) (fn := Tryz.f5) (by kernel_rfl) rfl rfl ?_
 refine wo ?_
 apply AU []; exact (Aa rfl); iterate 4 exact rfl
 case hC => exact (fun hp hs ht => books_d hs.ok)
 rintro u N ⟨cb, B, b, q, Z, oz, M, rfl, hcb, hB, hM, rfl⟩
 refine wo ?_
 apply wm; iterate 5 exact rfl
 refine m_eqp rfl rfl
 refine wo ?_
 refine AY (BH rfl rfl rfl) rfl rfl rfl rfl (fun hp hs => jfixed_d hs.ok (hkk.give0 hs)) ?_
 refine wOS0 ?_
 iterate 6 ((try refine w_seqN rfl ?_); refine wOS0 ?_)
 refine w_cut (fun l' df' L' => ∃ s : BkS, BkI ⟨hp, []⟩ b cb rs s ∧ (s.i = rs.length ∨ s.i = 30) ∧ df' = [] ∧ SubV l' [(10, s.wr), (9, s.we), (8, s.wt), (7, s.wl), (5, .p (some (b, 0))), (1, .i .i64 z)] ∧ ∀ hp', SV ⟨hp, []⟩ hp' L' → SV ⟨hp, []⟩ hp' (bkL s.B ++ (s.ml ++ (s.mt ++ (s.me ++ (s.mr ++ s.x)))))) ?_ ?_
 ·refine wo ?_
  iterate 4 ((try refine BM ?_); refine wo ?_)
  refine Bq (ι := BkS) (fun s => [(11, .i .i64 (s.i : Nat)), (10, s.wr), (9, s.we), (8, s.wt), (7, s.wl), (5, .p (some (b, 0))), (1, .i .i64 z), (0, .sl A rs.length c o)]) (fun s => bkL s.B ++ (s.ml ++ (s.mt ++ (s.me ++ (s.mr ++ s.x))))) (fun s => BkI ⟨hp, []⟩ b cb rs s) (fun s => rs.length - s.i) ⟨0, .sl none 0 0 false, [], .sl none 0 0 false, [], .sl none 0 0 false, [], .sl none 0 0 false, [], [], B, []⟩ ⟨Nat.zero_le _, Nat.zero_le _, .nil, .nil, .nil, .nil, rfl, hB⟩ ⟨rfl, rfl, rfl, rfl, rfl, rfl, rfl, rfl, trivial⟩ (fun hp h => h.le) ?_
  intro ⟨i, wl, ml, wt, mt, we, me, wr, mr, x, B1, us⟩ hI
  have ⟨hi, hi30, hl, ht, he, hr, hx, hB1⟩ := hI
  dsimp only at hi hi30 hl ht he hr hx hB1 ⊢
  refine wo ?_
  by_cases g1 : i < rs.length
  rotate_left
  ·apply wm; iterate 5 exact rfl
   refine Af (v := .b false) rfl rfl (AF (by omega))
   refine wo ?_
   refine Bd ?_
   exact ⟨_, hI, .inl (by dsimp only; omega), rfl, ⟨rfl, rfl, rfl, rfl, rfl, rfl, trivial⟩, fun hp h => h⟩
  apply wm; iterate 5 exact rfl
  refine Af (v := .b true) rfl rfl (AL (by omega))
  refine wo ?_
  by_cases g2 : i < 30
  rotate_left
  ·apply wmg; iterate 7 exact rfl
   refine Af (v := .b false) rfl rfl (AF (by omega))
   refine wo ?_
   refine Bd ?_
   exact ⟨_, hI, .inr (by dsimp only; omega), rfl, ⟨rfl, rfl, rfl, rfl, rfl, rfl, trivial⟩, fun hp h => h⟩
  apply wmg; iterate 7 exact rfl
  refine Af (v := .b true) rfl rfl (AL (by omega))
  refine wo ?_
  obtain ⟨v, hv1, hq⟩ := recQs_at hvs (Iq g1)
  have hvi := Di (recQs_rows hvs) hv1
  have hv68 := recQ_len hq
  have hnx : mdR (rs.take (i + 1)) 0 = mdR (rs.take i) 0 ++ [BJ rs[i] (i + 2)] := by
   rw [List.take_succ_eq_append_getElem g1, mdR_snoc, List.length_take, Nat.zero_add, Nat.min_eq_left (by omega)]
  generalize rs[i] = r at *
  obtain ⟨hok, A1, c1, o1, ws, rfl, hA1, hws, hcap⟩ := hq
  obtain ⟨ba, oa, rfl⟩ : ∃ ba oa, A = some (ba, oa) := by
   cases hq : vs.flatten with
   | nil =>
    rw [hq] at hvi
    have := congrArg List.length hvi
    rw [hv68] at this
    simp at this
   | cons y t => rw [hq] at hA; exact Cw hA.1.rv
  have hmok : RecOk (BJ r (i + 2)) := GR hok
  have hmay : mayR (BJ r (i + 2)) := madeR_may (by omega) (by omega)
  have hcl : (codF cb (secB []) (BJ r (i + 2))).length = 32 := FJ _
  have hcl' : ((codF cb (secB []) (BJ r (i + 2))).map byV).length = 32 := by rw [List.length_map, hcl]
  have hcn : (codF cb (secB []) (BJ r (i + 2))).map byV ≠ [] := fun e => by rw [e] at hcl'; simp at hcl'
  have hml : (mdR (rs.take i) 0).length = i := by rw [mdR_len, List.length_take]; omega
  have hbd := FK hmok hmay
  have hll : (logF cb (secB []) (mdR (rs.take i) 0)).length ≤ i * 12200 := by have := logF_le (cb := cb) (sec := secB []) (mdR_all (recQs_ok hvs) hi30); rwa [hml] at this
  apply wn; iterate 5 exact rfl
  refine CO rfl rfl g1
  apply wm; iterate 5 exact rfl
  refine BT (j := i * 68) (s := 67) rfl hA.1 hA.2 rfl hvi hv68
  refine wo ?_
  apply AU []; exact (Aa rfl); iterate 4 exact rfl
  case hC => exact (fun hp hs ht => made_d (n := i + 2) hs.ok hok (hA1.give0 hs) (Ei (fun h => h.give0 hs) hws) hcap (by omega))
  rintro u NM ⟨w, rfl, hw⟩
  have hw68 := madeX_len hok hw
  have hwne : w ≠ [] := fun e => by rw [e] at hw68; simp at hw68
  apply p_op; exact (Aa rfl); iterate 4 exact rfl
  refine As rfl fun bm => ⟨_, rfl, ?_⟩
  apply p_do; exact (Aa rfl); exact rfl; exact rfl
  refine AG (C' := w) rfl rfl hwne hw68 (Io rfl) (by exact AC hw68) ⟨_, rfl, ?_⟩
  refine wo ?_
  refine zX (AO (s := 67) (cs := w) rfl (by rw [List.drop_zero]; exact Ip (by omega)) hw68) ?_
  apply AU []; exact (Aa rfl); iterate 4 exact rfl
  case hC => exact (fun hp hs ht => copy_d hs.ok (hw.r (Lt := []) hok hs outMem (Ei (fun h => h.give0 hs) hws)))
  rintro u NC ⟨wc, rfl, hcop⟩
  apply Db (bkL B1); exact (Aa rfl); iterate 4 exact rfl
  case hC => exact (fun hp hs ht => jwrite_d hB1 ht (hk.give hs) (hkk.give hs) (hcop.see hs outMem).rec (by have := (caF_all (mdR (rs.take i) 0)).2; omega))
  rintro u N4' ⟨hgood, _⟩
  obtain ⟨w4, N4, B2, rfl, hu4, hB2, rfl⟩ := hgood hmay
  rw [List.append_assoc]
  rw [← caF_snoc, ← hnx] at hB2
  change RowK (frF cb (secB []) (BJ r (i + 2))) w4 N4 at hu4
  obtain ⟨A4, o4, rfl⟩ := hu4.sl
  have hfl := frF_len (cb := cb) (sec := secB []) (BJ r (i + 2))
  refine wo ?_
  apply p_op; exact (Aa rfl); iterate 4 exact rfl
  refine As rfl fun bt => ⟨_, rfl, ?_⟩
  refine wo ?_
  apply p_do; exact (Aa rfl); exact rfl; exact rfl
  refine AG (C' := (codF cb (secB []) (BJ r (i + 2))).map byV) rfl rfl hcn hcl' (Io rfl) (by exact AC hcl') ⟨_, rfl, ?_⟩
  refine wo ?_
  apply wm; iterate 5 exact rfl
  refine Af (v := .b false) rfl rfl (AK ((by simp)))
  refine wo ?_
  apply p_op; exact (Aa rfl); iterate 4 exact rfl
  refine C8 (ys := frF cb (secB []) (BJ r (i + 2))) hl rfl rfl hu4.src rfl CM (by omega) fun A5 m5 o5 ml' hl' hm5 => ⟨_, rfl, ?_⟩
  refine wo ?_
  refine zX (AO (s := 31) (cs := (codF cb (secB []) (BJ r (i + 2))).map byV) rfl (by rw [List.drop_zero]; exact Ip (Nat.le_of_eq hcl')) hcl') ?_
  apply p_op; exact (Aa rfl); iterate 4 exact rfl
  refine Fl (C := (codF cb (secB []) (BJ r (i + 2))).map byV) (n := 1) (sz := 32) rfl rfl (by decide) (.cons rfl rfl hcl' .nil) (List.append_nil _) rfl fun bs1 => ⟨_, rfl, ?_⟩
  apply p_op; exact (Aa rfl); iterate 4 exact rfl
  refine EU (ds := (codF cb (secB []) (BJ r (i + 2))).map byV) (n := 1) ht rfl rfl (Bw (k := 32) (by rw [List.drop_zero]; exact Ip (Nat.le_of_eq hcl'))) (by rw [hcl']) (by decide) (by omega) fun A6 o6 mt' ht' => ⟨_, rfl, ?_⟩
  refine wo ?_
  apply p_op; exact (Aa rfl); iterate 4 exact rfl
  refine Fl (C := [.i .i64 (m5 : Nat)]) (n := 1) (sz := 1) rfl rfl (by decide) (.cons rfl rfl rfl .nil) rfl rfl fun bs2 => ⟨_, rfl, ?_⟩
  apply p_op; exact (Aa rfl); iterate 4 exact rfl
  refine EU (ds := [.i .i64 (m5 : Nat)]) (n := 1) he rfl rfl (Bw (k := 1) rfl) rfl (by decide) (by omega) fun A7 o7 me' he' => ⟨_, rfl, ?_⟩
  refine wo ?_
  refine zX (AO (s := 67) (cs := w) rfl (by rw [List.drop_zero]; exact Ip (by omega)) hw68) ?_
  apply p_op; exact (Aa rfl); iterate 4 exact rfl
  refine Fl (C := w) (n := 1) (sz := 68) rfl rfl (by decide) (.cons rfl rfl hw68 .nil) (List.append_nil _) rfl fun bs3 => ⟨_, rfl, ?_⟩
  apply p_op; exact (Aa rfl); iterate 4 exact rfl
  refine EU (ds := w) (n := 1) hr rfl rfl (Bw (k := 68) (by rw [List.drop_zero]; exact Ip (Nat.le_of_eq hw68))) (by rw [hw68]) (by decide) (by omega) fun A8 o8 mr' hr' => ⟨_, rfl, ?_⟩
  refine wo ?_
  have hm5' : 0 + (logF cb (secB []) (mdR (rs.take i) 0)).length + (frF cb (secB []) (BJ r (i + 2))).length = m5 := by omega
  refine ⟨rfl, ⟨i + 1, .sl A5 m5 m5 o5, ml', .sl A6 (i + 1) (i + 1) o6, mt', .sl A7 (i + 1) (i + 1) o7, me', .sl A8 (i + 1) (i + 1) o8, mr', NM ++ x, B2, us ++ [w]⟩, ⟨by dsimp only; omega, by dsimp only; omega, ?_, ?_, ?_, by rw [B5]; exact hr', ?_, hB2⟩, by dsimp only; omega, ⟨rfl, rfl, rfl, rfl, rfl, rfl, rfl, rfl, trivial⟩, fun hp h => h.le⟩
  ·dsimp only
   rw [hnx, logF_app, logF, logF, List.append_nil]
   exact hl'
  ·dsimp only
   rw [hnx, List.map_append, List.flatten_append]
   simp only [List.map_cons, List.map_nil, List.flatten_cons, List.flatten_nil, List.append_nil]
   exact ht'
  ·dsimp only
   rw [hnx, endF_app, List.map_append, endF, endF, hm5']
   exact he'
  ·dsimp only
   rw [hnx]
   exact bkRs_snoc (bkR_mono (fun p hp => List.mem_append_left _ hp) ⟨r, i + 2, ws, rfl, hok, hws, hw⟩) (bkRs_mono (fun p hp => List.mem_append_right _ hp) hx)
 rintro l df L ⟨s, hI, hend, rfl, hsl, hL⟩
 refine D3 hL (w_sub hsl ?_)
 obtain ⟨i, wl, ml, wt, mt, we, me, wr, mr, x, B1, us⟩ := s
 have ⟨hi, hi30, hl, ht, he, hr, hx, hB1⟩ := hI
 dsimp only at hi hi30 hl ht he hr hx hB1 ⊢
 clear hI hsl hL hend
 have hall := mdR_all (recQs_ok hvs) hi30
 have hml : (mdR (rs.take i) 0).length = i := by rw [mdR_len, List.length_take]; omega
 generalize mdR (rs.take i) 0 = ms at *
 have hll : (logF cb (secB []) ms).length ≤ i * 12200 := by have := logF_le (cb := cb) (sec := secB []) hall; rwa [hml] at this
 have hel : (endF cb (secB []) ms 0).length = i := by rw [endF_len, hml]
 obtain ⟨Al, ol, rfl⟩ := hl.sl
 obtain ⟨At, ot, rfl⟩ := ht.sl
 obtain ⟨Ae, oe, rfl⟩ := he.sl
 obtain ⟨Ar, or', rfl⟩ := hr.sl
 refine w_base (bkL B1) (ml ++ (mt ++ (me ++ (mr ++ x)))) (fun hp h => h) fun hp1 hs1 => ?_
 have hAl := hl.rb (Lt := bkL B1) hs1
 have hAt := ht.rb (Lt := bkL B1) hs1
 have hAe := he.rb (Lt := bkL B1) hs1
 have hAr := hr.rb (Lt := bkL B1) hs1
 have hk1 := hk.give hs1
 have hkk1 := hkk.give hs1
 have hRec : ∀ j m, ms[j]? = some m → ∃ u, us[j]? = some u ∧ RecR ⟨hp1, hnds (bkL B1)⟩ m u := fun j m hj => by
  obtain ⟨u, h1, r, n, ws, rfl, h3, h4, h5⟩ := bkRs_at hx hj
  exact ⟨u, h1, h5.r h3 hs1 (fun p hp => by simp [hp]) (Ei (fun h => h.give hs1) h4)⟩
 have hus := bkRs_rows hx
 obtain ⟨lg, hlg⟩ : ∃ lg, lg = (logF cb (secB []) ms).length := ⟨_, rfl⟩
 rw [← hlg] at hl ⊢
 refine wo ?_
 apply wm; iterate 5 exact rfl
 refine m_remI rfl rfl (by omega)
 obtain ⟨kz, hkz⟩ : ∃ kz, kz = z.tmod ((lg + 1 : Nat) : Int) := ⟨_, rfl⟩
 have hk0 : -((lg + 1 : Nat) : Int) < kz ∧ kz < ((lg + 1 : Nat) : Int) := by
  have h0 : (0 : Int) < ((lg + 1 : Nat) : Int) := by omega
  rw [hkz]
  refine ⟨?_, Int.tmod_lt_of_pos _ h0⟩
  have := Int.tmod_lt_of_pos (-z) h0
  rw [Int.neg_tmod] at this
  omega
 rw [← hkz]
 refine wOS0 ?_
 refine Gn [(16, .i .i64 (kz.natAbs : Nat)), (10, .sl Ar i i or'), (9, .sl Ae i i oe), (8, .sl At i i ot), (7, .sl Al lg lg ol), (5, .p (some (b, 0)))] (bkL B1) True ?_ fun _ => ?_
 ·refine wo ?_
  by_cases g : kz < 0
  ·apply wm; iterate 5 exact rfl
   refine Af (v := .b true) rfl rfl (AL ((by exact g)))
   refine wo ?_
   apply wn; iterate 5 exact rfl
   refine pv_un rfl (v := .i .i64 (kz.natAbs : Nat)) (by
    show some (V.i .i64 (IntKind.i64.wrap (0 - kz))) = _
    rw [show 0 - kz = ((kz.natAbs : Nat) : Int) by omega, IntWalk.i64_in _ (by omega)])
   refine wo ?_
   exact ⟨trivial, rfl, ⟨rfl, rfl, rfl, rfl, rfl, rfl, trivial⟩, fun hp h => h⟩
  ·apply wm; iterate 5 exact rfl
   refine Af (v := .b false) rfl rfl (AF ((by exact g)))
   refine wo ?_
   refine ⟨trivial, rfl, ⟨?_, rfl, rfl, rfl, rfl, rfl, trivial⟩, fun hp h => h⟩
   show some (V.i .i64 kz) = some (V.i .i64 ((kz.natAbs : Nat) : Int))
   rw [show ((kz.natAbs : Nat) : Int) = kz by omega]
 obtain ⟨k, hkn⟩ : ∃ k, k = kz.natAbs := ⟨_, rfl⟩
 have hkl : k ≤ lg := by omega
 rw [← hkn]
 obtain ⟨c1, c2, c3, c4, c5⟩ := cutE_ends (cb := cb) (sec := secB []) ms (k := k) (p := 0) (by omega)
 have hat := fun {j : Nat} {x : EntS} (h : (cutE cb (secB []) ms k 0).1[j]? = some x) => cutE_at ms h
 have hsc := scan_cut (cb := cb) (sec := secB []) (ca := caF ms) ms (pre := []) (k := k) (f := k + 1) (acc := []) (fun m hm => ⟨(hall m hm).1, (hall m hm).2, (caF_all ms).1 m hm⟩) (by omega) (Nat.le_refl _)
 rw [List.nil_append, List.nil_append, List.length_nil] at hsc
 obtain ⟨es, hes⟩ : ∃ es, es = (cutE cb (secB []) ms k 0).1 := ⟨_, rfl⟩
 obtain ⟨er, her⟩ : ∃ er, er = (cutE cb (secB []) ms k 0).2 := ⟨_, rfl⟩
 rw [← hes, ← her] at hsc
 rw [← hes] at c1 c2 c3 c5 hat
 rw [← her] at c4 c5
 clear hes her
 rw [Nat.zero_add] at c3 c5
 have hend : ∀ j (e : Nat), (endF cb (secB []) ms 0)[j]? = some e → ((endF cb (secB []) ms 0).map fun (e : Nat) => V.i .i64 (e : Nat))[j]? = some (V.i .i64 (e : Nat)) := fun j e h => by rw [List.getElem?_map, h]; rfl
 have hems : es.length ≤ i := by omega
 refine wOS0 ?_
 iterate 2 ((try refine w_seqN rfl ?_); refine wOS0 ?_)
 refine Gn [(17, .i .i64 (es.length : Nat)), (16, .i .i64 (k : Nat)), (10, .sl Ar i i or'), (9, .sl Ae i i oe), (8, .sl At i i ot), (7, .sl Al lg lg ol), (5, .p (some (b, 0)))] (bkL B1) True ?_ fun _ => ?_
 ·refine wo ?_
  iterate 4 ((try refine BM ?_); refine wo ?_)
  refine Bq (ι := Nat) (fun n => [(17, .i .i64 (n : Nat)), (16, .i .i64 (k : Nat)), (10, .sl Ar i i or'), (9, .sl Ae i i oe), (8, .sl At i i ot), (7, .sl Al lg lg ol), (5, .p (some (b, 0)))]) (fun n => bkL B1) (fun n => n ≤ es.length) (fun n => es.length - n) 0 (Nat.zero_le _) ⟨rfl, rfl, rfl, rfl, rfl, rfl, rfl, trivial⟩ (fun hp h => h) ?_
  intro n hn
  try dsimp only at hn ⊢
  refine wo ?_
  by_cases q1 : n < i
  ·obtain ⟨be, oe', rfl⟩ := rb_ne hAe (by rw [List.length_map, hel]; omega)
   obtain ⟨e, he1⟩ : ∃ e, (endF cb (secB []) ms 0)[n]? = some e := ⟨_, Iq (by omega)⟩
   have he2 := hend n e he1
   apply wm; iterate 5 exact rfl
   refine Af (v := .b true) rfl rfl (AL (by omega))
   refine wo ?_
   apply wg; iterate 7 exact rfl
   refine p_ia rfl rfl q1
   apply wmg; iterate 7 exact rfl
   refine BO (j := n) rfl hAe.1 hAe.2 rfl he2
   refine wo ?_
   by_cases q2 : n < es.length
   ·have q3 : e ≤ k := by
     obtain ⟨e', h1, h2⟩ := c2 n q2
     rw [he1] at h1
     obtain rfl := Iu h1
     omega
    apply wmg; iterate 7 exact rfl
    refine Af (v := .b true) rfl rfl (Hg (by omega))
    refine wo ?_
    exact ⟨rfl, n + 1, q2, by (try dsimp only); omega, ⟨rfl, rfl, rfl, rfl, rfl, rfl, rfl, trivial⟩, fun hp h => h⟩
   ·obtain rfl : n = es.length := by omega
    have q3 : ¬ e ≤ k := by
     obtain ⟨e', h1, h2⟩ := c3 (by omega)
     rw [he1] at h1
     obtain rfl := Iu h1
     omega
    apply wmg; iterate 7 exact rfl
    refine Af (v := .b false) rfl rfl (Hh (by omega))
    refine wo ?_
    refine Bd ?_
    exact ⟨trivial, rfl, ⟨rfl, rfl, rfl, rfl, rfl, rfl, rfl, trivial⟩, fun hp h => h⟩
  ·obtain rfl : n = es.length := by omega
   apply wm; iterate 5 exact rfl
   refine Af (v := .b false) rfl rfl (AF (by omega))
   refine wo ?_
   refine Bd ?_
   exact ⟨trivial, rfl, ⟨rfl, rfl, rfl, rfl, rfl, rfl, rfl, trivial⟩, fun hp h => h⟩
 have hkl2 : ((logF cb (secB []) ms).take k).length = k := by rw [List.length_take]; omega
 refine wo ?_
 refine zX (m_slR hl rfl Cj (BR rfl) hkl) ?_
 have hAk : RB ⟨hp1, hnds (bkL B1)⟩ Al (((logF cb (secB []) ms).take k).map byV) := by
  have := hAl.take k
  rwa [← List.map_take] at this
 have hSc : ∀ {Lr : HV} (hp' : Hp), SV ⟨hp1, hnds (bkL B1)⟩ hp' (bkL B1 ++ Lr) → SV ⟨hp', hnds (bkL B1)⟩ hp' (bkL B1) → Fn kxD 23 [.p (some (b, 0)), .sl Al k lg ol] hp' (hnds (bkL B1)) fun r' N => ∃ u, r' = .v u ∧ ∃ w M X B' us, u = .tup [w, .i .i64 (er : Nat)] ∧ RowG 66 102 es.length us.flatten w M ∧ HS X es us ∧ BkSt B' b 256 cb (secB []) [] (caF ms) [] ∧ N = (M ++ X) ++ bkL B' := fun hp' hs ht => by
  have := scan_d (log := (logF cb (secB []) ms).take k) (c := lg) (o := ol) hB1 ht (hk1.give hs) (hkk1.give hs) (hAk.give hs) (by omega) (by omega) hsc
  rw [hkl2] at this
  exact this
 apply Db (bkL B1); exact (Aa rfl); iterate 4 exact rfl
 case hC => exact (fun hp hs ht => hSc hp hs ht)
 rintro u NS ⟨wS, MS, XS, B2, us2, rfl, hwS, hXS, hB2, rfl⟩
 obtain ⟨AS, oS, rfl⟩ := hwS.sl
 refine wOS0 ?_
 refine Gn [(20, .b (decide (er = 0))), (19, .i .i64 (er : Nat)), (18, .sl AS es.length es.length oS), (17, .i .i64 (es.length : Nat)), (10, .sl Ar i i or'), (9, .sl Ae i i oe), (8, .sl At i i ot), (5, .p (some (b, 0)))] (bkL B2 ++ (MS ++ XS)) True ?_ fun _ => ?_
 ·refine wo ?_
  by_cases q0 : k = 0
  ·have := c5.2 (.inl q0)
   apply wm; iterate 5 exact rfl
   refine Af (v := .b true) rfl rfl (Be (by omega))
   refine wo ?_
   exact ⟨trivial, rfl, ⟨by rw [decide_eq_true this]; rfl, rfl, rfl, rfl, rfl, rfl, rfl, rfl, trivial⟩, fun hp h => h.le⟩
  apply wm; iterate 5 exact rfl
  refine Af (v := .b false) rfl rfl (BW (by omega))
  refine wo ?_
  by_cases q1 : 0 < es.length
  ·obtain ⟨be, oe', rfl⟩ := rb_ne hAe (by rw [List.length_map, hel]; omega)
   obtain ⟨e, he1⟩ : ∃ e, (endF cb (secB []) ms 0)[es.length - 1]? = some e := ⟨_, Iq (by omega)⟩
   have he2 := hend _ e he1
   apply wmg; iterate 7 exact rfl
   refine Af (v := .b true) rfl rfl (Cv (by omega))
   refine wo ?_
   apply wg; iterate 7 exact rfl
   refine p_ia (i := es.length - 1) rfl rfl (by omega)
   apply wmg; iterate 7 exact rfl
   refine BO (j := es.length - 1) rfl hAe.1 hAe.2 rfl he2
   refine wo ?_
   by_cases q2 : e = k
   ·have := c5.2 (.inr ⟨q1, by rw [he1, q2]⟩)
    apply wmg; iterate 7 exact rfl
    refine Af (v := .b true) rfl rfl (Be (by omega))
    refine wo ?_
    exact ⟨trivial, rfl, ⟨by rw [decide_eq_true this]; rfl, rfl, rfl, rfl, rfl, rfl, rfl, rfl, trivial⟩, fun hp h => h.le⟩
   ·have : er ≠ 0 := fun h => by
     rcases c5.1 h with h | ⟨_, h⟩
     ·exact q0 h
     ·rw [he1] at h
      exact q2 (Iu h)
    apply wmg; iterate 7 exact rfl
    refine Af (v := .b false) rfl rfl (BW (by omega))
    refine wo ?_
    exact ⟨trivial, rfl, ⟨by rw [decide_eq_false this]; rfl, rfl, rfl, rfl, rfl, rfl, rfl, rfl, trivial⟩, fun hp h => h.le⟩
  ·have : er ≠ 0 := fun h => by
    rcases c5.1 h with h | ⟨h, _⟩
    ·exact q0 h
    ·exact q1 h
   apply wmg; iterate 7 exact rfl
   refine Af (v := .b false) rfl rfl (Bm (by omega))
   refine wo ?_
   exact ⟨trivial, rfl, ⟨by rw [decide_eq_false this]; rfl, rfl, rfl, rfl, rfl, rfl, rfl, rfl, trivial⟩, fun hp h => h.le⟩
 refine Gn [(18, .sl AS es.length es.length oS), (17, .i .i64 (es.length : Nat)), (10, .sl Ar i i or'), (9, .sl Ae i i oe), (8, .sl At i i ot)] (bkL B2 ++ (MS ++ XS)) True ?_ fun _ => ?_
 ·rcases c4 with e0 | e0
  ·rw [decide_eq_true e0]
   refine wo ?_
   apply wm; iterate 5 exact rfl
   refine Af (v := .b false) rfl rfl (AK ((by simp)))
   refine wo ?_
   apply wmg; iterate 7 exact rfl
   refine Af (v := .b true) rfl rfl (Be (by omega))
   refine wo ?_
   apply wmg; iterate 7 exact rfl
   refine m_neqb rfl rfl rfl
   refine wo ?_
   apply Db (bkL B2); exact (BH rfl rfl rfl); iterate 4 exact rfl
   case hC => exact (fun hp hs ht => forg0_s hB2 ht)
   rintro u N ⟨rfl, rfl⟩
   refine wo ?_
   apply wmg; iterate 7 exact rfl
   refine Af (v := .b false) rfl rfl (AK (rfl))
   refine wo ?_
   exact ⟨trivial, rfl, ⟨rfl, rfl, rfl, rfl, rfl, trivial⟩, fun hp h => h⟩
  ·rw [decide_eq_false (show ¬ er = 0 by omega)]
   refine wo ?_
   apply wm; iterate 5 exact rfl
   refine Af (v := .b false) rfl rfl (AK ((by simp)))
   refine wo ?_
   apply wmg; iterate 7 exact rfl
   refine Af (v := .b false) rfl rfl (BW (by omega))
   refine wo ?_
   apply wmg; iterate 7 exact rfl
   refine m_neqb rfl rfl rfl
   refine wo ?_
   apply wmg; iterate 7 exact rfl
   refine Af (v := .b false) rfl rfl (AK (by omega))
   refine wo ?_
   apply Db (bkL B2); exact (BH rfl rfl rfl); iterate 4 exact rfl
   case hC => exact (fun hp hs ht => forg0_s hB2 ht)
   rintro u N ⟨rfl, rfl⟩
   refine wo ?_
   apply wmg; iterate 7 exact rfl
   refine Af (v := .b false) rfl rfl (AK (rfl))
   refine wo ?_
   exact ⟨trivial, rfl, ⟨rfl, rfl, rfl, rfl, rfl, trivial⟩, fun hp h => h⟩
 refine w_base (bkL B2) (MS ++ XS) (fun hp h => h) fun hp2 hs2 => ?_
 have hAS := hwS.rb (Lt := bkL B2) hs2
 have hAt2 : RB ⟨hp2, hnds (bkL B2)⟩ At _ := hAt.give hs2
 have hAe2 : RB ⟨hp2, hnds (bkL B2)⟩ Ae _ := hAe.give hs2
 have hAr2 : RB ⟨hp2, hnds (bkL B2)⟩ Ar _ := hAr.give hs2
 have hGot : ∀ j e, es[j]? = some e → ∃ w, us2[j]? = some (entC w e) ∧ w.length = 68 ∧ e.code.length = 32 ∧ RecR ⟨hp2, hnds (bkL B2)⟩ e.r w := fun j e hj => by
  obtain ⟨u, h1, w, rfl, h2, h3⟩ := entXs_at hXS hj
  exact ⟨w, h1, recX_len h2, h3, h2.r hs2 (fun p hp => List.mem_append_right _ hp)⟩
 have hus2 := entXs_rows hXS
 refine wo ?_
 iterate 4 ((try refine BM ?_); refine wo ?_)
 refine Bq (ι := Nat) (fun j => [(22, .i .i64 (j : Nat)), (21, .i .i64 ((if j = 0 then 0 else ((endF cb (secB []) ms 0)[j - 1]?).getD 0 : Nat) : Nat)), (18, .sl AS es.length es.length oS), (17, .i .i64 (es.length : Nat)), (10, .sl Ar i i or'), (9, .sl Ae i i oe), (8, .sl At i i ot)]) (fun j => []) (fun j => j ≤ es.length) (fun j => es.length - j) 0 (Nat.zero_le _) ⟨rfl, rfl, rfl, rfl, rfl, rfl, rfl, trivial⟩ (fun hp h => h.le) ?_
 intro j hj
 try dsimp only at hj ⊢
 refine wo ?_
 by_cases g : j < es.length
 ·obtain ⟨e, m, ej, h1, h2, h3, rfl⟩ : ∃ e m ej, es[j]? = some e ∧ ms[j]? = some m ∧ (endF cb (secB []) ms 0)[j]? = some ej ∧ e = ⟨m, codF cb (secB []) m, if j = 0 then 0 else ((endF cb (secB []) ms 0)[j - 1]?).getD 0, ej⟩ := by
   have h1 : es[j]? = some es[j] := Iq g
   obtain ⟨m, e, h2, h3, h4⟩ := hat h1
   exact ⟨_, m, e, h1, h2, h3, h4⟩
  obtain ⟨w, w1, w2, w3, w4⟩ := hGot j _ h1
  obtain ⟨u, u1, u2⟩ := hRec j m h2
  have hwf := Di hus2 w1
  obtain ⟨p1, p2, p3, p4⟩ := entC_parts hwf w2 w3
  dsimp only at p2 p3 p4
  have huf := Di hus u1
  have hul := hus u (List.mem_of_getElem? u1)
  have he2 := hend j ej h3
  have hcl : (codF cb (secB []) m).length = 32 := FJ _
  have hcl' : ((codF cb (secB []) m).map byV).length = 32 := by rw [List.length_map, hcl]
  have htf : ((((ms.map fun m => (codF cb (secB []) m).map byV).flatten).drop (j * 32)).take 32) = (codF cb (secB []) m).map byV := Di (fun y hy => by obtain ⟨m', _, rfl⟩ := List.mem_map.1 hy; rw [List.length_map, FJ]) (by rw [List.getElem?_map, h2]; rfl)
  obtain ⟨bS, oS', rfl⟩ := rb_ne hAS (by have := congrArg List.length p1; rw [w2, List.length_take, List.length_drop] at this; omega)
  obtain ⟨bE, oE', rfl⟩ := rb_ne hAe2 (by rw [List.length_map, hel]; omega)
  obtain ⟨bR, oR', rfl⟩ := rb_ne hAr2 (by have := congrArg List.length huf; rw [hul, List.length_take, List.length_drop] at this; omega)
  obtain ⟨bT, oT', rfl⟩ := rb_ne hAt2 (by have := congrArg List.length htf; rw [hcl', List.length_take, List.length_drop] at this; omega)
  have hji : j < i := by omega
  apply wm; iterate 5 exact rfl
  refine Af (v := .b true) rfl rfl (AL (by omega))
  refine wo ?_
  apply dn; iterate 5 exact rfl
  refine CO rfl rfl g
  refine wo ?_
  apply dm; iterate 6 exact rfl
  refine BT (j := j * 102) (s := 67) (vs := w) rfl hAS.1 hAS.2 rfl p1 w2
  refine wo ?_
  apply dn; iterate 5 exact rfl
  refine CO rfl rfl hji
  apply dm; iterate 6 exact rfl
  refine BT (j := j * 68) (s := 67) (vs := u) rfl hAr2.1 hAr2.2 rfl huf hul
  refine EL (Aa rfl) (by decide +kernel) rfl rfl rfl rfl (fun hp hs => same19_d hs.ok (w4.give0 hs) ((u2.give hs2).give0 hs)) ?_
  refine wo ?_
  apply dg; iterate 7 exact rfl
  refine CO rfl rfl g
  refine wo ?_
  apply dmg; iterate 8 exact rfl
  refine BT (j := j * 102 + 68) (s := 31) (vs := (codF cb (secB []) m).map byV) rfl hAS.1 hAS.2 rfl p2 hcl'
  refine wo ?_
  apply dg; iterate 7 exact rfl
  refine CO rfl rfl hji
  apply dmg; iterate 8 exact rfl
  refine BT (j := j * 32) (s := 31) (vs := (codF cb (secB []) m).map byV) rfl hAt2.1 hAt2.2 rfl htf hcl'
  apply dmg; iterate 8 exact rfl
  refine m_neqA rfl rfl rfl hcl hcl
  rw [decide_eq_true rfl]
  refine wo ?_
  apply dg; iterate 7 exact rfl
  refine CO rfl rfl g
  refine wo ?_
  apply dmg; iterate 8 exact rfl
  refine BO (j := j * 102 + 100) rfl hAS.1 hAS.2 rfl p3
  refine wo ?_
  apply dmg; iterate 8 exact rfl
  refine Af (v := .b false) rfl rfl (AK ((by simp)))
  refine wo ?_
  apply dg; iterate 7 exact rfl
  refine CO rfl rfl g
  refine wo ?_
  apply dmg; iterate 8 exact rfl
  refine BO (j := j * 102 + 101) rfl hAS.1 hAS.2 rfl p4
  refine wo ?_
  apply dg; iterate 7 exact rfl
  refine p_ia rfl rfl hji
  apply dmg; iterate 8 exact rfl
  refine BO (j := j) rfl hAe2.1 hAe2.2 rfl he2
  apply dmg; iterate 8 exact rfl
  refine Af (v := .b false) rfl rfl (AK ((by simp)))
  refine wo ?_
  apply wn; iterate 5 exact rfl
  refine p_ia rfl rfl hji
  apply wm; iterate 5 exact rfl
  refine BO (j := j) rfl hAe2.1 hAe2.2 rfl he2
  refine wo ?_
  refine ⟨rfl, j + 1, g, by (try dsimp only); omega, ⟨rfl, ?_, rfl, rfl, rfl, rfl, rfl, trivial⟩, fun hp h => h.le⟩
  rw [if_neg (Nat.succ_ne_zero j), Nat.add_sub_cancel, h3]
  rfl
 apply wm; iterate 5 exact rfl
 refine Af (v := .b false) rfl rfl (AF (by omega))
 refine wo ?_
 refine Bd ?_
 refine wo ?_
 exact Ay (Ag (AR (Ai rfl)) rfl)
end Go.Proofs.YtbmkclbghfbegaaGreatDoor
/- Jbe: records that were handed in, one behind the other, opened. By this project. -/
set_option maxRecDepth 100000
namespace Go.Proofs.YtbmkclbghfbegaaGreatDoor
open Go.ChangeShapes Go.WideShapes Go.ChangeAt Go.RowKit Go.Extern.Stop
def chP : Nat → List Ent → List (List V)
 | _, [] => []
 | p, e :: r => [gvV p e.qk e.c.key.length e.ck, gvV (p + 1) e.qv e.c.val.length e.cv, .b e.c.gone] :: chP (p + 2) r
structure REnt where
 z0 : Int
 z1 : Int
 z2 : Int
 pv : List UInt8
 rt : List UInt8
 A : Option Addr
 T : TypeId
 ex : Nat
 c : Nat
 l : List Ent
def REnt.r (e : REnt) : Rec := ⟨e.z0, e.z1, e.z2, e.pv, e.rt, e.l.map (·.c)⟩
def REnt.cells (e : REnt) : List Value := .int .i64 e.z0 :: .int .i64 e.z1 :: .int .i64 e.z2 :: (e.pv.map cell ++ (e.rt.map cell ++ [.slice e.A e.l.length e.c]))
structure REntOk (W : World) (e : REnt) : Prop where
 pv : e.pv.length = 32
 rt : e.rt.length = 32
 l : ∀ x ∈ e.l, EntOk W x
 len : e.l.length * 56 ≤ 140737488355328
 emp : e.A = none → e.l = []
 spot : ∀ a, e.A = some a → a.spot ≠ none → e.l = [] ∧ e.c = 0
 at' : ∀ a, e.A = some a → e.l ≠ [] → ∃ pre sp fz, W.heap[a.block]? = some (.cells (pre ++ e.l.flatMap Ent.cells ++ sp).toArray e.T fz) ∧ pre.length = a.off ∧ sp.length = e.ex
def REnt.q (p : Nat) (e : REnt) : GV := ⟨e.A, (chP p e.l).flatten, e.T, 1, e.ex⟩
def recV (p : Nat) (e : REnt) : List V := recC e.r (gvV p (e.q (p + 1)) e.l.length e.c)
def recsV : Nat → List REnt → List (List V)
 | _, [] => []
 | p, e :: r => recV p e :: recsV (p + 1 + 2 * e.l.length) r
def recG : Nat → List REnt → List GV
 | _, [] => []
 | p, e :: r => e.q (p + 1) :: (entG e.l ++ recG (p + 1 + 2 * e.l.length) r)
theorem Ii : ∀ l : List Ent, (entG l).length = 2 * l.length
 | [] => rfl
 | e :: r => by
  have e1 : entG (e :: r) = e.qk :: e.qv :: entG r := rfl
  rw [e1, List.length_cons, List.length_cons, Ii r, List.length_cons]
  omega
def AtG (bs : List GV) (p : Nat) (G : List GV) : Prop := ∀ j q, G[j]? = some q → bs[p + j]? = some q
theorem AtG.tail {bs G : List GV} {p : Nat} {q : GV} (h : AtG bs p (q :: G)) : AtG bs (p + 1) G := fun j x hj => by
 have := h (j + 1) x (by simpa using hj)
 rwa [show p + 1 + j = p + (j + 1) by omega]
theorem AtG.left {bs G H : List GV} {p : Nat} (h : AtG bs p (G ++ H)) : AtG bs p G := fun j x hj => h j x (by rw [List.getElem?_append_left (Iv.1 hj).1]; exact hj)
theorem AtG.right {bs G H : List GV} {p : Nat} (h : AtG bs p (G ++ H)) : AtG bs (p + G.length) H := fun j x hj => by
 have := h (G.length + j) x (by rw [List.getElem?_append_right (by omega), Nat.add_sub_cancel_left]; exact hj)
 rwa [Nat.add_assoc]
theorem AtG.zero {bs : List GV} : AtG bs 0 bs := fun j x hj => by rwa [Nat.zero_add]
theorem chP_ren {bs : List GV} {W : World} : ∀ {l : List Ent} {p : Nat}, (∀ e ∈ l, EntOk W e) → AtG bs p (entG l) → renL (gvE bs) (chP p l).flatten = some (l.flatMap Ent.cells)
 | [], _, _, _ => rfl
 | e :: r, p, h1, h2 => by
  have he := h1 e List.mem_cons_self
  have e1 : entG (e :: r) = e.qk :: e.qv :: entG r := rfl
  rw [e1] at h2
  have k1 := h2 0 e.qk rfl
  have k2 := h2 1 e.qv rfl
  have r1 := ren_gv (n := e.c.key.length) (c := e.ck) k1 (fun a ha hs => by obtain ⟨x, y⟩ := he.k.spot a ha hs; exact ⟨by rw [x]; rfl, y⟩)
  have r2 := ren_gv (n := e.c.val.length) (c := e.cv) k2 (fun a ha hs => by obtain ⟨x, y⟩ := he.v.spot a ha hs; exact ⟨by rw [x]; rfl, y⟩)
  have ih := chP_ren (bs := bs) (l := r) (p := p + 2) (fun e he => h1 e (List.mem_cons_of_mem _ he)) h2.tail.tail
  rw [Nat.add_zero] at r1
  have r3 : ren (gvE bs) (.b e.c.gone) = some (.bool e.c.gone) := rfl
  rw [chP, List.flatten_cons, List.flatMap_cons]
  exact CB (by simp [renL, r1, r2, r3, Ent.cells]) ih
theorem chP_chg {bs : List GV} {B : Bs} {W : World} (hb : ∀ j q, bs[j]? = some q → RB B (gvA j q) q.cs) : ∀ {l : List Ent} {p : Nat}, (∀ e ∈ l, EntOk W e) → AtG bs p (entG l) → Fq B (l.map (·.c)) (chP p l) ∧ ∀ v ∈ chP p l, CapC v
 | [], _, _, _ => ⟨rfl, fun v hv => by rw [chP] at hv; simp at hv⟩
 | e :: r, p, h1, h2 => by
  have he := h1 e List.mem_cons_self
  have e1 : entG (e :: r) = e.qk :: e.qv :: entG r := rfl
  rw [e1] at h2
  have k1 := h2 0 e.qk rfl
  have k2 := h2 1 e.qv rfl
  have r1 := hb _ _ k1
  have r2 := hb _ _ k2
  rw [he.k.cs] at r1
  rw [he.v.cs] at r2
  obtain ⟨i1, i2⟩ := chP_chg (W := W) hb (l := r) (p := p + 2) (fun e he => h1 e (List.mem_cons_of_mem _ he)) h2.tail.tail
  refine ⟨⟨_, _, rfl, ⟨_, _, _, _, _, _, rfl, r1, r2⟩, i1⟩, fun v hv => ?_⟩
  rw [chP] at hv
  rcases List.mem_cons.1 hv with rfl | hv
  ·intro A n c o hm
   simp only [gvV, List.mem_cons, V.sl.injEq, List.not_mem_nil, or_false] at hm
   rcases hm with ⟨_, rfl, rfl, _⟩ | ⟨_, rfl, rfl, _⟩ | h
   ·exact he.k.cap
   ·exact he.v.cap
   ·simp at h
  ·exact i2 v hv
theorem chP_nil (p : Nat) (l : List Ent) : (chP p l).flatten = [] ↔ l = [] := by cases l <;> simp [chP]
theorem chP_hd (p : Nat) (l : List Ent) : headOk (chP p l).flatten = true := by
 cases l with
 | nil => rfl
 | cons e r => simp [headOk, chP, Ht, gvV]
theorem rent_q {W : World} {bs : List GV} {e : REnt} {p : Nat} (h : REntOk W e) (hG : AtG bs p (entG e.l)) : GvOk W (gvE bs) (e.q p) := by
 refine ⟨fun ha => (chP_nil p e.l).2 (h.emp ha), fun a ha hs => (chP_nil p e.l).2 (h.spot a ha hs).1, fun a ha hn => ?_, chP_hd p e.l⟩
 obtain ⟨pre, sp, fz, h1, h2, h3⟩ := h.at' a ha (fun e0 => hn ((chP_nil p e.l).2 e0))
 exact ⟨pre, _, sp, fz, chP_ren h.l hG, ent_one e.l, h1, h2, by rw [h3]; exact (Nat.mul_one _).symm⟩
theorem rent_ren {W : World} {bs : List GV} {e : REnt} {p : Nat} (h : REntOk W e) (hG : bs[p]? = some (e.q (p + 1))) : renL (gvE bs) (recV p e) = some e.cells := by
 have hgv : ren (gvE bs) (gvV p (e.q (p + 1)) e.l.length e.c) = some (.slice e.A e.l.length e.c) := ren_gv (q := e.q (p + 1)) hG (fun a ha hs => by
  obtain ⟨x, y⟩ := h.spot a ha hs
  exact ⟨by rw [x]; rfl, y⟩)
 have h1 : renL (gvE bs) [gvV p (e.q (p + 1)) e.l.length e.c] = some [.slice e.A e.l.length e.c] := by simp [renL, hgv]
 have h2 := CB (Fy (E := gvE bs) e.pv) (CB (Fy e.rt) h1)
 have h2' : renL (gvE bs) (e.r.prev.map byV ++ (e.r.root.map byV ++ [gvV p (e.q (p + 1)) e.l.length e.c])) = some (e.pv.map cell ++ (e.rt.map cell ++ [.slice e.A e.l.length e.c])) := h2
 simp only [recV, recC, renL, h2', ren, Ir, Option.map_some]
 rfl
theorem recs_ren {W : World} {bs : List GV} : ∀ {L : List REnt} {p : Nat}, (∀ e ∈ L, REntOk W e) → AtG bs p (recG p L) → renL (gvE bs) (recsV p L).flatten = some (L.flatMap REnt.cells)
 | [], _, _, _ => rfl
 | e :: r, p, h1, h2 => by
  rw [recG] at h2
  have k1 := h2 0 _ rfl
  have ih := recs_ren (L := r) (p := p + 1 + 2 * e.l.length) (fun e he => h1 e (List.mem_cons_of_mem _ he)) (by have := h2.tail.right; rwa [Ii] at this)
  rw [recsV, List.flatten_cons, List.flatMap_cons]
  exact CB (rent_ren (h1 e List.mem_cons_self) k1) ih
theorem recs_gv {W : World} {bs : List GV} : ∀ {L : List REnt} {p : Nat}, (∀ e ∈ L, REntOk W e) → AtG bs p (recG p L) → ∀ q ∈ recG p L, GvOk W (gvE bs) q
 | [], _, _, _, q, hq => by rw [recG] at hq; simp at hq
 | e :: r, p, h1, h2, q, hq => by
  rw [recG] at h2 hq
  have he := h1 e List.mem_cons_self
  rcases List.mem_cons.1 hq with rfl | hq
  ·exact rent_q he h2.tail.left
  ·rcases List.mem_append.1 hq with hq | hq
   ·obtain ⟨x, hx, h3⟩ := List.mem_flatMap.1 hq
    simp only [List.mem_cons, List.not_mem_nil, or_false] at h3
    rcases h3 with rfl | rfl
    ·exact (he.l x hx).k.gv
    ·exact (he.l x hx).v.gv
   ·exact recs_gv (fun e he => h1 e (List.mem_cons_of_mem _ he)) (by have := h2.tail.right; rwa [Ii] at this) q hq
theorem recs_q {bs : List GV} {B : Bs} {W : World} (hb : ∀ j q, bs[j]? = some q → RB B (gvA j q) q.cs) : ∀ {L : List REnt} {p : Nat}, (∀ e ∈ L, REntOk W e) → AtG bs p (recG p L) → RecQs B (L.map REnt.r) (recsV p L)
 | [], _, _, _ => rfl
 | e :: r, p, h1, h2 => by
  rw [recG] at h2
  have he := h1 e List.mem_cons_self
  have k1 := h2 0 _ rfl
  obtain ⟨c1, c2⟩ := chP_chg hb he.l h2.tail.left
  have r1 := hb _ _ k1
  refine ⟨_, _, rfl, ⟨⟨he.pv, he.rt, by simpa [REnt.r] using he.len, fun c hc => ?_⟩, gvA (p + 0) (e.q (p + 1)), e.c, false, chP (p + 1) e.l, ?_, r1, c1, c2⟩, recs_q hb (fun e he => h1 e (List.mem_cons_of_mem _ he)) (by have := h2.tail.right; rwa [Ii] at this)⟩
  ·obtain ⟨x, hx, rfl⟩ := List.mem_map.1 hc
   exact ⟨(he.l x hx).lk, (he.l x hx).lv⟩
  ·unfold recV gvV
   rw [show e.r.ch.length = e.l.length by simp [REnt.r]]
   rfl
instance : Inhabited REnt := ⟨⟨0, 0, 0, [], [], none, 0, 0, 0, []⟩⟩
theorem bytes_of : ∀ {cs : List Value}, (∀ i, i < cs.length → ∃ y : UInt8, cs[i]? = some (cell y)) → ∃ pv : List UInt8, cs = pv.map cell
 | [], _ => ⟨[], rfl⟩
 | c :: r, h => by
  obtain ⟨y, hy⟩ := h 0 (by simp)
  obtain ⟨pv, hp⟩ := bytes_of (cs := r) (fun i hi => by
   obtain ⟨z, hz⟩ := h (i + 1) (by simpa using hi)
   exact ⟨z, by simpa using hz⟩)
  simp only [List.getElem?_cons_zero, Im] at hy
  exact ⟨y :: pv, by rw [hy, hp]; rfl⟩
theorem u8_wf {m : Int} (h : (Lit.int .u8 m).wf = true) : ∃ y : UInt8, m = (y.toNat : Int) := by
 unfold Lit.wf at h
 simp [IntKind.min, IntKind.max, IntKind.signed, IntKind.bits] at h
 exact ⟨UInt8.ofNat m.toNat, by rw [UInt8.toNat_ofNat']; omega⟩
section
variable {H : Type} {enc : TypeId × Value → H} {W : World} {base : Nat} {held : Bool}
theorem trod_bytes {P : Program} {t e : TypeId} {n : Nat} (ht : arrayT P t = some (n, e)) (he : intT P e = some .u8) (hc : P.cellsOf e = 1) (hn : P.cellsOf t = n) {fuel : Nat} {cs : List Value} {x : DataW H × List MemPlace} (h : DataW.trod enc P W base (fun _ => true) held fuel t cs = some x) : ∃ pv : List UInt8, cs = pv.map cell ∧ pv.length = n := by
 obtain ⟨xs, m, _, _, hl, hxl, hf⟩ := DataW.trod_array (und_array ht) h
 rw [hn] at hl
 obtain ⟨pv, hp⟩ := bytes_of (cs := cs) fun i hi => by
  have h1 := hf i (by omega)
  rw [hc, Nat.mul_one, Iq (by omega)] at h1
  obtain ⟨m', e1, _, e3⟩ := DataW.trod_int (Er he) h1
  obtain ⟨y, rfl⟩ := u8_wf e3
  refine ⟨y, ?_⟩
  have h2 : ((cs.drop i).take 1)[0]? = some (cell y) := by rw [e1]; rfl
  rw [List.getElem?_take, if_pos (by decide), List.getElem?_drop] at h2
  exact h2
 exact ⟨pv, hp, by rw [hp, List.length_map] at hl; exact hl⟩
theorem open_rent {fuel : Nat} {C : List Value} {d : DataW H} {ps : List MemPlace} (h : DataW.trod enc Tryz.prog W base (fun _ => true) held fuel 26 C = some (d, ps)) (hz : (DataW.weights Tryz.prog 26 d).all (· ≤ reachBytes) = true) :
  ∃ e : REnt, C = e.cells ∧ REntOk W e := by
 have hl := trod_len (FieldT.h (P := Tryz.prog) (t := 26) (i := 0)) h
 rw [show Tryz.prog.cellsOf 26 = 68 by kernel_rfl] at hl
 obtain ⟨n0, d0, p0, k0, _⟩ := Es (FieldT.h (P := Tryz.prog) (t := 26) (i := 0)) h hz
 obtain ⟨n1, d1, p1, k1, _⟩ := Es (FieldT.h (P := Tryz.prog) (t := 26) (i := 1)) h hz
 obtain ⟨n2, d2, p2, k2, _⟩ := Es (FieldT.h (P := Tryz.prog) (t := 26) (i := 2)) h hz
 obtain ⟨n3, d3, p3, k3, _⟩ := Es (FieldT.h (P := Tryz.prog) (t := 26) (i := 3)) h hz
 obtain ⟨n4, d4, p4, k4, _⟩ := Es (FieldT.h (P := Tryz.prog) (t := 26) (i := 4)) h hz
 obtain ⟨n5, d5, p5, k5, z5⟩ := Es (FieldT.h (P := Tryz.prog) (t := 26) (i := 5)) h hz
 rw [show Tryz.prog.cellsOf 3 = 1 by kernel_rfl] at k0
 rw [show Tryz.prog.cellsOf 2 = 1 by kernel_rfl] at k1 k2
 rw [show Tryz.prog.cellsOf 23 = 32 by kernel_rfl] at k3 k4
 rw [show Tryz.prog.cellsOf 24 = 1 by kernel_rfl] at k5
 obtain ⟨z0, e0, _⟩ := DataW.trod_int (Er (IntT.h (P := Tryz.prog) (t := 3))) k0
 obtain ⟨z1, e1, _⟩ := DataW.trod_int (Er (IntT.h (P := Tryz.prog) (t := 2))) k1
 obtain ⟨z2, e2, _⟩ := DataW.trod_int (Er (IntT.h (P := Tryz.prog) (t := 2))) k2
 obtain ⟨pv, e3, l3⟩ := trod_bytes (ArrayT.h (P := Tryz.prog) (t := 23)) (IntT.h (P := Tryz.prog) (t := 5)) (by kernel_rfl) (by kernel_rfl) k3
 obtain ⟨rt, e4, l4⟩ := trod_bytes (ArrayT.h (P := Tryz.prog) (t := 23)) (IntT.h (P := Tryz.prog) (t := 5)) (by kernel_rfl) (by kernel_rfl) k4
 obtain ⟨s, hs⟩ : ∃ s, C[67]? = some s := ⟨_, Iq (by omega)⟩
 have hd67 : (C.drop 67).take 1 = [s] := by
  have h1 : 67 < C.length := by omega
  rw [List.drop_eq_getElem_cons h1]
  rw [Iq h1] at hs
  simp only [Im] at hs
  simp [hs]
 rw [hd67] at k5
 obtain ⟨A, l, c, rfl, hE, h56, hAn, hAs, hAt⟩ := open_chs k5 z5
 obtain ⟨T, sp, hblk⟩ : ∃ T sp, ∀ a, A = some a → l ≠ [] → ∃ pre fz, W.heap[a.block]? = some (.cells (pre ++ l.flatMap Ent.cells ++ sp).toArray T fz) ∧ pre.length = a.off := by
  cases hA : A with
  | none => exact ⟨0, [], fun a ha => by simp at ha⟩
  | some a =>
   by_cases hn : l = []
   ·exact ⟨0, [], fun a' _ h => absurd hn h⟩
   ·obtain ⟨pre, sp, T, fz, h1, h2⟩ := hAt a hA hn
    exact ⟨T, sp, fun a' ha _ => by
     obtain rfl := Iu ha
     exact ⟨pre, fz, h1, h2⟩⟩
 refine ⟨⟨z0, z1, z2, pv, rt, A, T, sp.length, c, l⟩, ?_, ⟨l3, l4, hE, h56, hAn, hAs, fun a ha hn => ?_⟩⟩
 ·have f1 : C = C.take 3 ++ C.drop 3 := (List.take_append_drop 3 C).symm
  have f2 : C.drop 3 = (C.drop 3).take 32 ++ (C.drop 3).drop 32 := (List.take_append_drop 32 _).symm
  have f3 : C.drop 35 = (C.drop 35).take 32 ++ (C.drop 35).drop 32 := (List.take_append_drop 32 _).symm
  have f4 : (C.drop 67).take 1 = C.drop 67 := Ip (by rw [List.length_drop]; omega)
  rw [List.drop_drop] at f2 f3
  have g : ∀ (i : Nat) (v : Value), (C.drop i).take 1 = [v] → C[i]? = some v := fun i v hv => by
   have h2 : ((C.drop i).take 1)[0]? = some v := by rw [hv]; rfl
   rw [List.getElem?_take, if_pos (by decide), List.getElem?_drop] at h2
   exact h2
  have f5 : C.take 3 = [.int .i64 z0, .int .i64 z1, .int .i64 z2] := by
   apply List.ext_getElem?
   intro i
   match i with
   | 0 => simpa using g 0 _ e0
   | 1 => simpa using g 1 _ e1
   | 2 => simpa using g 2 _ e2
   | i + 3 => simp; omega
  have f6 : C.drop 35 = rt.map cell ++ [.slice A l.length c] := by
   rw [f3, ← hd67, f4]
   congr 1
  have f7 : C.drop 3 = pv.map cell ++ C.drop 35 := by
   conv => lhs; rw [f2]
   congr 1
  rw [f1, f5, f7, f6]
  rfl
 ·obtain ⟨pre, fz, h1, h2⟩ := hblk a ha hn
  exact ⟨pre, sp, fz, h1, h2, rfl⟩
theorem open_recs {fuel : Nat} {v : Value} {d : DataW H} {ps : List MemPlace} (h : DataW.trod enc Tryz.prog W base (fun _ => true) held fuel 59 [v] = some (d, ps)) (hz : (DataW.weights Tryz.prog 59 d).all (· ≤ reachBytes) = true) :
  ∃ (A : Option Addr) (l : List REnt) (c : Nat), v = .slice A l.length c ∧ (∀ x ∈ l, REntOk W x) ∧ (A = none → l = []) ∧ (∀ a, A = some a → a.spot ≠ none → l = [] ∧ c = 0) ∧
   ∀ a, A = some a → l ≠ [] → ∃ pre sp T fz, W.heap[a.block]? = some (.cells (pre ++ l.flatMap REnt.cells ++ sp).toArray T fz) ∧ pre.length = a.off := by
 have hu := Dx (SliceT.h (P := Tryz.prog) (t := 59))
 have hc : Tryz.prog.cellsOf 26 = 68 := by kernel_rfl
 rcases DataW.trod_slice hu h with ⟨e1, _⟩ | ⟨a, len, cap, elems, rest, n, _, e1, ed, _, _, _, hlen, hel, e2, _⟩
 ·obtain rfl : v = .slice none 0 0 := by simpa using e1
  exact ⟨none, [], 0, rfl, fun x hx => by simp at hx, fun _ => rfl, fun a ha => by simp at ha, fun a ha => by simp at ha⟩
 ·obtain rfl : v = .slice (some a) len cap := by simpa using e1
  simp only [Is] at ed
  obtain ⟨rfl, _⟩ := ed
  obtain ⟨e2, e3⟩ := e2 rfl
  simp only [DataW.weights, hu, List.all_cons, List.all_append, Bool.and_eq_true, decide_eq_true_eq, List.length_map] at hz
  obtain ⟨hz1, hz2, _⟩ := hz
  have each : ∀ i, i < len → ∃ x : REnt, W.cells? base (a.add (i * 68)) 68 = some x.cells ∧ REntOk W x := fun i hi => by
   have h1 := hel i hi
   rw [hc, Iq (by omega), Il] at h1
   obtain ⟨cs, h2, h3⟩ := h1
   obtain ⟨x, rfl, hx⟩ := open_rent (d := elems[i].1) (ps := elems[i].2) h3 (El (List.mem_map.2 ⟨elems[i], List.getElem_mem _, rfl⟩) hz2)
   exact ⟨x, h2, hx⟩
  obtain ⟨f, hf⟩ := Go.Deep.choose_lt each
  refine ⟨some a, (List.range len).map f, cap, by simp, fun x hx => ?_, fun e => by simp at e, fun a' ha hs => ?_, fun a' ha hn => ?_⟩
  ·obtain ⟨i, hi, rfl⟩ := List.mem_map.1 hx
   exact (hf i (List.mem_range.1 hi)).2
  ·obtain rfl := Iu ha
   have h0 : len = 0 := by
    rcases Nat.eq_zero_or_pos len with h0 | h0
    ·exact h0
    ·have := Dp (hf 0 h0).1 (by decide)
     exact absurd this hs
   subst h0
   refine ⟨rfl, ?_⟩
   rcases Nat.eq_zero_or_pos cap with h0 | h0
   ·exact h0
   ·exfalso
    have h1 := e3 0 (by omega)
    rw [hc, Iq (by omega), Il] at h1
    obtain ⟨cs, h2, _⟩ := h1
    exact hs (Dp h2 (by decide))
  ·obtain rfl := Iu ha
   have h0 : 0 < len := by
    rcases Nat.eq_zero_or_pos len with h0 | h0
    ·subst h0; exact absurd rfl hn
    ·exact h0
   have hsp := Dp (hf 0 h0).1 (by decide)
   have hsp : a.spot = none := hsp
   obtain ⟨hrw, _⟩ := rw_elems (f := fun i => (f i).cells) hsp (fun i hi => (hf i hi).1)
   rw [flat_map]
   exact rw_block hsp (fun e => by
    have := congrArg List.length e
    obtain ⟨m, rfl⟩ : ∃ m, len = m + 1 := ⟨len - 1, by omega⟩
    simp [List.range_succ, REnt.cells] at this) hrw
end
theorem jbaOwn : ownKnob Tryz.prog.godebug = none := by kernel_rfl
theorem jbaLaidOut : laidOutB Tryz.prog = true := by kernel_rfl
abbrev jGs : Gs := (0, kindsC, 163) :: shaGs
theorem j_nb : ∀ x ∈ jGs, x.2.1.all DV = true := by
 intro x hx
 rcases List.mem_cons.1 hx with rfl | hx
 ·kernel_rfl
 ·exact sha_nb x hx
def kindsL : List Value := [.int .i64 1, .int .i64 0, .int .i64 0, .bool false, .int .i64 2, .int .i64 1, .int .i64 32, .bool true]
set_option maxRecDepth 100000 in
theorem j_gs {W : World} {ps : List MemPlace} {r : List (String × DataW Unit)} (hL : DataW.LaidVars Tryz.prog W (("cairn/sha.k", Rows.laid_cairn_sha_k) :: ("cairn/sha.first", Rows.laid_cairn_sha_first) :: ("cairn/journal.kinds", Rows.laid_cairn_journal_kinds) :: r) ps) (hS : W.ShapedOpen Tryz.prog) : ∀ x ∈ jGs, GOk W x := by
 obtain ⟨g2, ps3, h3⟩ := laid_gl 4 237 (kW.map AE) (kW.map wV) hL hS (by kernel_rfl) (by kernel_rfl) (of_decide_eq_true (by kernel_rfl)) (of_decide_eq_true (by kernel_rfl)) (by kernel_rfl) (by kernel_rfl) (by kernel_rfl) (fun E => GP _) (by kernel_rfl)
 obtain ⟨g3, ps4, h4⟩ := laid_gl 3 220 (firstW.map AE) (firstW.map wV) h3 hS (by kernel_rfl) (by kernel_rfl) (of_decide_eq_true (by kernel_rfl)) (of_decide_eq_true (by kernel_rfl)) (by kernel_rfl) (by kernel_rfl) (by kernel_rfl) (fun E => GP _) (by kernel_rfl)
 obtain ⟨g4, _⟩ := laid_gl 0 163 kindsL kindsC h4 hS (by kernel_rfl) (by kernel_rfl) (of_decide_eq_true (by kernel_rfl)) (of_decide_eq_true (by kernel_rfl)) (by kernel_rfl) (by kernel_rfl) (by kernel_rfl) (fun E => rfl) (by kernel_rfl)
 intro x hx
 simp only [jGs, shaGs, List.mem_cons, List.not_mem_nil, or_false] at hx
 rcases hx with rfl | rfl | rfl <;> assumption
set_option maxRecDepth 100000 in
theorem j_tab {W : World} {bs : List GV} (hg : ∀ x ∈ jGs, GOk W x) (hb : ∀ q ∈ bs, GvOk W (gvE bs) q) : Tab ⟨gvHp jGs bs, []⟩ ∧ KTab ⟨gvHp jGs bs, []⟩ := by
 have e1 := gv_glob hg j_nb hb (x := (4, kW.map wV, 237)) (by simp) (by kernel_rfl)
 have e2 := gv_glob hg j_nb hb (x := (3, firstW.map wV, 220)) (by simp) (by kernel_rfl)
 have e4 := gv_glob hg j_nb hb (x := (0, kindsC, 163)) (by simp) (by kernel_rfl)
 have hnx : ∀ g, g < 64 → g < (gvHp jGs bs).nx := fun g h => by show g < 66 + 4 * bs.length; omega
 have hro : ∀ {g : Nat} {cs : List V} {t : TypeId}, g < 64 → (gvHp jGs bs).t.get g = some (.cells cs t none false) → RO (gvHp jGs bs) (some (g, 0)) cs := fun hg e => ⟨fun b o e => by
  simp only [Im, Is] at e
  obtain ⟨rfl, rfl⟩ := e
  exact .inl (hnx _ hg), fun j v hv => ⟨_, 0, rfl, by
   simp only [cellV, Bn, Hp.get, e, Ir, Nat.zero_add]
   exact hv⟩⟩
 have r2 := hro (by decide) e2
 have r4 := hro (by decide) e4
 exact ⟨⟨⟨_, e1⟩, not_own0 (.inl (hnx _ (by decide))), r2, now0 r2⟩, ⟨r4, now0 r4⟩⟩
theorem rent_one {W : World} {e : REnt} (h : REntOk W e) : e.cells.all (·.oneCell') = true := by
 refine List.all_eq_true.2 fun v hv => ?_
 simp only [REnt.cells, List.mem_cons, List.mem_append, List.mem_map, List.not_mem_nil, or_false] at hv
 rcases hv with rfl | rfl | rfl | ⟨x, _, rfl⟩ | ⟨x, _, rfl⟩ | rfl <;> rfl
theorem recs_hd (p : Nat) (L : List REnt) : headOk (recsV p L).flatten = true := by
 cases L with
 | nil => rfl
 | cons e r =>
  unfold headOk
  rw [Bool.or_eq_true, List.any_eq_true]
  exact .inr ⟨gvV p (e.q (p + 1)) e.l.length e.c, by simp [recsV, recV, recC], rfl⟩
theorem recs_nil (p : Nat) (L : List REnt) : (recsV p L).flatten = [] ↔ L = [] := by cases L <;> simp [recsV, recV, recC]
set_option maxRecDepth 100000 in
theorem jbaContract (H : Type) (enc : TypeId × Value → H) (W : World) (base : Nat) (args : Array Value) (ds gs : List (DataW H)) (before : List MemPlace)
  (hval : ∀ (j : Nat) t v, Tryz.f5.params[j]? = some t → args[j]? = some v → Value.okWide Tryz.prog W .any base t v)
  (hW : DataW.Whole enc Tryz.prog Tryz.f5.params.toList Rows.journalBackSpec.vars false W args.toList ds gs before) (hz : (DataW.weightsEach Tryz.prog (Tryz.f5.params.toList ++ Rows.journalBackSpec.plain.varTypes Tryz.prog) (ds ++ gs)).all (· ≤ reachBytes) = true) (hL0 : laidMetH Tryz.prog Rows.journalBackUptoRow.laid W) (hS : W.ShapedOpen Tryz.prog) :
  Calls Tryz.prog 5 args W fun e W' => ∃ v, e = .returned v ∧ Rows.journalBackSpec.post enc Tryz.prog Tryz.f5 false true false false W args v W' := by
 have hW' := hW
 obtain ⟨p, q, hA0, hV, rfl, hfz, hnd⟩ := hW
 have hA : DataW.TrodAll enc Tryz.prog W 0 (fun _ => true) true Tryz.f5.params.toList args.toList ds p := hA0
 rw [Tryz.params5] at hA hval hz
 obtain ⟨v0, vs0, d0, ds0, p0, q0, e0, rfl, rfl, h0, r0⟩ := trodAll_cons hA
 obtain ⟨v1, vs1, d1, ds1, p1, q1, e1, rfl, rfl, h1, r1⟩ := trodAll_cons r0
 obtain ⟨rfl, rfl⟩ := trodAll_nil r1
 obtain rfl : args = #[v0, v1] := by cases args; simp_all
 obtain ⟨rfl, rfl⟩ := trodVars_none hV
 obtain ⟨z, rfl, _⟩ := okWide_int (IntT.h (P := Tryz.prog) (t := 3)) (hval 1 _ v1 rfl rfl)
 simp only [List.cons_append, List.nil_append, DataW.weightsEach, List.all_append, List.all_nil, List.append_nil, Bool.and_eq_true] at hz
 obtain ⟨A0, m0, c0, rfl⟩ := okWide_slice (SliceT.h (P := Tryz.prog) (t := 59)) (hval 0 _ v0 rfl rfl)
 obtain ⟨fuel, h0⟩ := h0
 have hcell : (Value.slice A0 m0 c0).cells.toList = [Value.slice A0 m0 c0] := by simp [Value.cells]
 rw [hcell] at h0
 obtain ⟨A, L, c, hv, hL, hAn, hAs, hAt⟩ := open_recs h0 hz.1
 simp only [Value.slice.injEq] at hv
 obtain ⟨rfl, rfl, rfl⟩ := hv
 obtain ⟨T, sp, hblk⟩ : ∃ T sp, ∀ a, A0 = some a → L ≠ [] → ∃ pre fz, W.heap[a.block]? = some (.cells (pre ++ L.flatMap REnt.cells ++ sp).toArray T fz) ∧ pre.length = a.off := by
  cases hA : A0 with
  | none => exact ⟨0, [], fun a ha => by simp at ha⟩
  | some a =>
   by_cases hn : L = []
   ·exact ⟨0, [], fun a' _ h => absurd hn h⟩
   ·obtain ⟨pre, sp, T, fz, h1, h2⟩ := hAt a hA hn
    exact ⟨T, sp, fun a' ha _ => by
     obtain rfl := Iu ha
     exact ⟨pre, fz, h1, h2⟩⟩
 obtain ⟨g0, hg0⟩ : ∃ g0 : GV, g0 = ⟨A0, (recsV 1 L).flatten, T, 1, sp.length⟩ := ⟨_, rfl⟩
 have hAtG : AtG (g0 :: recG 1 L) 1 (recG 1 L) := AtG.zero.tail
 have hren := recs_ren hL hAtG
 have hg : GvOk W (gvE (g0 :: recG 1 L)) g0 := by
  subst hg0
  refine ⟨fun e => (recs_nil 1 L).2 (hAn e), fun a ha hs => (recs_nil 1 L).2 (hAs a ha hs).1, fun a ha hn => ?_, recs_hd 1 L⟩
  obtain ⟨pre, fz, h1, h2⟩ := hblk a ha (fun e => hn ((recs_nil 1 L).2 e))
  refine ⟨pre, _, sp, fz, hren, List.all_eq_true.2 fun v hv => ?_, h1, h2, (Nat.mul_one _).symm⟩
  obtain ⟨e, he, hv⟩ := List.mem_flatMap.1 hv
  exact List.all_eq_true.1 (rent_one (hL e he)) v hv
 obtain ⟨ps, hl, _⟩ := (show laidMet Tryz.prog Rows.journalBackUptoRow.laid W from hL0)
 have hG := j_gs hl hS
 have hb : ∀ q ∈ g0 :: recG 1 L, GvOk W (gvE (g0 :: recG 1 L)) q := fun q hq => by
  rcases List.mem_cons.1 hq with rfl | hq
  ·exact hg
  ·exact recs_gv hL hAtG q hq
 have hT := j_tab hG hb
 have hargs2 : renL (gvE (g0 :: recG 1 L)) [gvV 0 g0 L.length c0, .i .i64 z] = some [.slice A0 L.length c0, .int .i64 z] := by
  have h1 := ren_gv (bs := g0 :: recG 1 L) (i := 0) (q := g0) (n := L.length) (c := c0) rfl (fun a ha hs => by
   rw [hg0] at ha
   obtain ⟨x, y⟩ := hAs a ha hs
   exact ⟨by rw [x]; rfl, y⟩)
  have h2 : g0.A = A0 := by rw [hg0]
  rw [h2] at h1
  simp [renL, h1, ren]
 have hrow : RB ⟨gvHp jGs (g0 :: recG 1 L), []⟩ (gvA 0 g0) (recsV 1 L).flatten := by
  have := gv_ro hG j_nb hb (i := 0) (q := g0) rfl
  rw [hg0] at this ⊢
  exact this
 have hQ := recs_q (bs := g0 :: recG 1 L) (B := ⟨gvHp jGs (g0 :: recG 1 L), []⟩) (W := W) (fun j q hj => gv_ro hG j_nb hb hj) hL hAtG
 have hfn := back_d (rs := L.map REnt.r) (c := c0) (o := false) (z := z) (gv_okH hG j_nb hb) hT.1 hT.2 hrow hQ
 rw [List.length_map] at hfn
 refine (gv_law (gs := jGs) (bs := g0 :: recG 1 L) hG j_nb hb kxD_ok hargs2 hfn).mono ?_
 rintro e W' ⟨rfl, hb⟩
 exact ⟨_, rfl, law_post hW' jbaLaidOut (by kernel_rfl) rfl (by kernel_rfl) rfl rfl rfl rfl hb⟩
def jbaCells (l : List Nat) : Array Value := (l.map fun n => Value.int .u32 (.ofNat n)).toArray
def jbaK : List Nat := [1116352408, 1899447441, 3049323471, 3921009573, 961987163, 1508970993, 2453635748, 2870763221, 3624381080, 310598401, 607225278, 1426881987, 1925078388, 2162078206, 2614888103, 3248222580, 3835390401, 4022224774, 264347078, 604807628, 770255983, 1249150122, 1555081692, 1996064986, 2554220882, 2821834349, 2952996808, 3210313671, 3336571891, 3584528711, 113926993, 338241895, 666307205, 773529912, 1294757372, 1396182291, 1695183700, 1986661051, 2177026350, 2456956037, 2730485921, 2820302411, 3259730800, 3345764771, 3516065817, 3600352804, 4094571909, 275423344, 430227734, 506948616, 659060556, 883997877, 958139571, 1322822218, 1537002063, 1747873779, 1955562222, 2024104815, 2227730452, 2361852424, 2428436474, 2756734187, 3204031479, 3329325298]
def jbaFirst : List Nat := [1779033703, 3144134277, 1013904242, 2773480762, 1359893119, 2600822924, 528734635, 1541459225]
def jbaPut (l : Array Value) : Obj → Obj
 | .cells _ t frozen => .cells l t frozen
 | o => o
def jbaArgs : Array Value := #[.slice none 0 0, .int .i64 0]
noncomputable def jbaWorld (os : Os) : World :=
 { World.holding Tryz.prog os ⟨#[], #[], []⟩ with heap := (((World.holding Tryz.prog os ⟨#[], #[], []⟩).heap.modify 4 (jbaPut (jbaCells jbaK))).modify 3 (jbaPut (jbaCells jbaFirst))).modify 0 (jbaPut kindsL.toArray) }
set_option maxRecDepth 100000 in
theorem jba_laid (os : Os) : laidMet Tryz.prog Rows.journalBackUptoRow.laid ((jbaWorld os).forCall (fun _ _ => 0) ⟨#[], jbaArgs, []⟩).memory :=
 laidMet_of_run' 8 (by kernel_rfl) (by kernel_rfl)
theorem jba_reads (os : Os) {H : Type} (enc : TypeId × Value → H) : ∃ places, DataW.whole enc Tryz.prog ((jbaWorld os).forCall (fun _ _ => 0) ⟨#[], jbaArgs, []⟩).memory Tryz.f5.params.toList Rows.journalBackSpec.vars false jbaArgs.toList 8 =
  some ([.nil, .lit (.int .i64 0)], [], places) :=
 ⟨[], by kernel_rfl⟩
set_option maxRecDepth 100000 in
theorem jba_lifted (os : Os) (started : os.Started) (H : Type) (enc : TypeId × Value → H) (F : Stop.Interp) :
  ReturnsInHanded {} Tryz.checked os 5 .any ((Rows.OpenSpec.upto Rows.journalBackSpec).preRow enc Tryz.prog Tryz.f5 Rows.journalBackUptoRow.domain false Rows.journalBackUptoRow.laid) (((Rows.OpenSpec.upto Rows.journalBackSpec).at F).post enc Tryz.prog Tryz.f5 false true false false) := by
 obtain ⟨places, hx⟩ := jba_reads os enc
 refine returnsInHanded_of_row (C := Tryz.checked) (s := Rows.OpenSpec.upto Rows.journalBackSpec) jbaOwn started (by kernel_rfl) Tryz.func5
  (witness_row_at (enc := enc) (C := Tryz.checked) false (jbaWorld os) jbaArgs rfl (by kernel_rfl) (by kernel_rfl) (by kernel_rfl)
   (OpenSpec.preRow_of_cond 8 hx (by kernel_rfl) (fun k hk => by cases hk; kernel_rfl) (by kernel_rfl) (jba_laid os))) ?_
 intro W base args ds gs before hval hW _ _ hz hL hS _
 exact jbaContract H enc W base args ds gs before hval hW hz hL hS
theorem jba_said : Rows.JournalBackUptoSaid :=
 OpenClaim.holds_of_cond 5 Tryz.f5 rfl rfl rfl rfl rfl rfl rfl ⟨rfl, rfl, rfl, rfl, rfl⟩ rfl rfl rfl rfl rfl (by kernel_rfl) Tryz.func5 (by kernel_rfl)
  (of_decide_eq_true (by kernel_rfl)) (by unfold Func.isWrapper; rw [if_neg (of_decide_eq_false (by kernel_rfl))]; exact ⟨rfl, rfl⟩)
  (fun os started H enc _ F => by rw [OpenClaim.pre_eq_preRow]; exact jba_lifted os started H enc F)
theorem jba_plain (f : FuncId) (fn : Func) (hf : Tryz.pinned.checked.prog.funcNamed "cairn/cairnlaw19.JournalBack" = some f) (hfn : Tryz.pinned.checked.prog.funcs[f]? = some fn) :
  Rows.journalBackUptoCard.stood.looks = Tryz.pinned.checked.prog.looks [] ∧ ∀ (j : Nat) t, fn.params[j]? = some t → Tryz.pinned.checked.prog.wantsStandIn t = false := by
 obtain rfl : f = 5 := Iu ((show Tryz.prog.funcNamed "cairn/cairnlaw19.JournalBack" = some 5 by kernel_rfl).symm.trans hf) |>.symm
 obtain rfl : fn = Tryz.f5 := (Iu (Tryz.func5.symm.trans hfn)).symm
 refine ⟨by kernel_rfl, fun j t ht => ?_⟩
 rw [Tryz.params5] at ht
 have : t = 59 ∨ t = 3 := by simpa using Array.mem_of_getElem? ht
 rcases this with rfl | rfl
 ·exact (show Tryz.prog.wantsStandIn 59 = false by kernel_rfl)
 ·exact (show Tryz.prog.wantsStandIn 3 = false by kernel_rfl)
theorem JournalBack_holds : Rows.JournalBackUptoCardSaid :=
 Claim7.holds_tied_plain_at .later [] _ _ _ _ jba_said (fun _ h => by cases h) (by kernel_rfl) (fun _ h => by cases h) journalBackUpto_row_tie rfl ⟨rfl, rfl⟩ (by kernel_rfl) rfl jba_plain (by kernel_rfl)
#print axioms JournalBack_holds
end Go.Proofs.YtbmkclbghfbegaaGreatDoor
