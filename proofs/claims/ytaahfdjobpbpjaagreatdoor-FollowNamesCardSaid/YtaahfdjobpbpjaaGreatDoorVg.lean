/- Vg: the machine's slices: what append, copy and cuts do, against the world's. By this project. -/
import Derived.Test.YtaahfdjobpbpjaaGreatDoorVb
set_option linter.unusedVariables false
set_option linter.unusedSectionVars false
set_option linter.unusedSimpArgs false
namespace Go.Proofs.YtaahfdjobpbpjaaGreatDoor
open Go.RowKit Go.Extern.Stop

section
variable {P : Program} {C : Cx} (hC : COk P C) {E : Env} {hp : Hp} {w : World} {fr : Tr V} {a : Act}
theorem bytes_cells (s : List UInt8) : renL E (s.map byV) = some (s.map fun b => Value.int .u8 b.toNat) := by
  induction s with
  | nil => rfl
  | cons b r ih => simp only [List.map_cons, renL, ih, Option.bind_some, Option.map_some]; rfl
/-- What append and copy take. -/
theorem srcV_ok {sz n : Nat} {x : V} {cs : List V} {X : Value} (hR : Rep E hp.t w) (h : srcV hp sz x = some (n, cs)) (hX : ren E x = some X) :
    ∃ L, renL E cs = some L ∧ L.length = n * sz ∧ L.all (·.oneCell') = true ∧ (∀ w', (Builtin.lenOf X).run P w' = .ok n w') ∧ ∀ m, m ≤ n → (Builtin.firstCells sz m X).run P w = .ok (L.take (m * sz)).toArray w := by
  unfold srcV at h
  split at h
  · rename_i l c op
    simp only [ren, Option.some.injEq] at hX
    subst hX
    split at h
    · simp at h
      obtain ⟨rfl, rfl⟩ := h
      refine ⟨[], rfl, by simp, rfl, fun w' => rfl, fun m hm => ?_⟩
      have : m = 0 := by omega
      subst this
      simpa using run_firstCells_none (P := P) w sz 0 0 c
    · simp at h
  · rename_i hh o l c op
    simp only [Option.bind_eq_some_iff, Option.some.injEq, Prod.mk.injEq] at h
    obtain ⟨cs', h1, rfl, rfl⟩ := h
    simp only [ren, Option.map_eq_some_iff] at hX
    obtain ⟨⟨b, k, ex⟩, he, rfl⟩ := hX
    obtain ⟨L, g1, g2, g3, g4⟩ := loadV_ok hR h1
    refine ⟨L, g1, g2, g3, fun w' => rfl, fun m hm => ?_⟩
    have hle : m * sz ≤ l * sz := Nat.mul_le_mul_right _ hm
    have := run_loadCells_list (P := P) w ⟨b, k + o, none⟩ (L.take (m * sz)) (fun j v hv => by
      rw [Addr.add_mid]
      rw [List.getElem?_take] at hv
      split at hv
      · exact g4 b k ex he j v hv
      · simp at hv)
    rw [List.length_take, g2, Nat.min_eq_left hle] at this
    exact this
  · rename_i s
    simp only [ren, Option.some.injEq] at hX
    subst hX
    split at h
    · rename_i hz
      have hz := Nat.eq_of_beq_eq_true hz
      subst hz
      simp only [Option.some.injEq, Prod.mk.injEq, lenF_eq] at h
      obtain ⟨rfl, rfl⟩ := h
      refine ⟨_, bytes_cells s, by simp, ?_, fun w' => ?_, fun m hm => ?_⟩
      · simp [List.all_eq_true]
        intros; rfl
      · show Result.ok _ w' = _
        simp [ByteArray.size]
      · show Result.ok _ w = _
        congr 1
        apply Array.ext'
        simp [ByteArray.data_extract, List.map_take]
    · simp at h
  · simp at h
include hC
theorem src_of {sz n : Nat} {x : V} {cs : List V} {X : Value} {tX : TypeId} (hR : Rep E hp.t w) (ht : srcT C tX = true) (h : srcV hp sz x = some (n, cs)) (hX : ren E x = some X) : ∃ L, renL E cs = some L ∧ Src P sz tX X n L w := by
  obtain ⟨L, g1, g2, g3, g4, g5⟩ := srcV_ok (P := P) hR h hX
  obtain ⟨L', k1, k2, k3, k4, k5⟩ := srcV_ok (P := P) (w := w.drew) (hR.same rfl) h hX
  rw [g1] at k1
  obtain rfl := Option.some.inj k1
  have e : L.take (n * sz) = L := List.take_of_length_le (by omega)
  refine ⟨L, g1, ?_, g4, ?_, ?_, g2, fun u hu => List.all_eq_true.1 g3 u hu⟩
  · unfold srcT at ht
    cases hti : tiV C tX with
    | none => rw [hti] at ht; simp at ht
    | some ti =>
      rw [hti] at ht
      have hT := tiV_ok hC hti
      simp only at ht
      cases hd : ti.d <;> rw [hd] at ht <;> simp at ht
      · exact .inr (hT.str hd)
      · exact .inl ⟨_, hT.sl hd⟩
  · have := g5 n (Nat.le_refl _); rwa [e] at this
  · have := k5 n (Nat.le_refl _); rwa [e] at this
omit hC in
/-- A block given up, and told anew under a new handle. -/
theorem out_move {hp' : Hp} {w' : World} {h h' b k ex k' ex' : Nat} {o o' : VO} {x' : Obj} (hro : roB h = false) (hr : Rep E hp.t w) (hg : hp.t.get h = some o) (hE : E h = some (b, k, ex)) (hn : (hp.put h none).new o' = some (h', hp')) (hf : Free E hp.nx hp'.nx) (ho : ObjRep E o' (b, k', ex') x')
    (hw : w'.heap[b]? = some x') (hne : ∀ j, j ≠ b → w'.heap[j]? = w.heap[j]?) (hs : w'.heap.size = w.heap.size) (hos : w'.os = w.os) (ht : w'.tape = w.tape) (hu : w'.output = w.output) :
    hp.nx ≤ hp'.nx ∧ h' = hp.nx ∧ Out E hp w (E.upd h' (b, k', ex')) hp' w' ∧ E.upd h' (b, k', ex') h' = some (b, k', ex') := by
  obtain ⟨rfl, h1, h2, h3⟩ := new_some hn
  have hnx : (hp.put h none).nx = hp.nx := rfl
  rw [hnx] at h1 h2 h3 ⊢
  have hEn : E hp.nx = none := hf _ (Nat.le_refl _) (by omega)
  have hhn : h ≠ hp.nx := fun e => by rw [e, hEn] at hE; simp at hE
  have hle := Env.upd_le (e := (b, k', ex')) hEn
  have get : ∀ y q, hp'.t.get y = some q → (y = hp.nx ∧ q = o') ∨ (y ≠ hp.nx ∧ y ≠ h ∧ hp.t.get y = some q) := fun y q hq => by
    rw [h3] at hq
    by_cases hy : y = hp.nx
    · rw [if_pos hy] at hq; exact .inl ⟨hy, (Option.some.inj hq).symm⟩
    · rw [if_neg hy] at hq
      have : (hp.put h none).t.get y = if y = h then none else hp.t.get y := Tr.get_set _ _ _
      rw [this] at hq
      by_cases hyh : y = h
      · rw [if_pos hyh] at hq; simp at hq
      · rw [if_neg hyh] at hq; exact .inr ⟨hy, hyh, hq⟩
  refine ⟨by omega, rfl, ⟨hle, fun y hy => Env.upd_ne (by omega), ⟨fun y q hq => ?_, fun y y' q q' e e' hq hq' he he' hee => ?_⟩, ⟨hos, ht, hu, by omega, fun i hi hn => hne i fun e => hn h o _ hg hE hro e.symm, fun y q e hq he hr' => ?_⟩⟩, Env.upd_eq⟩
  · rcases get y q hq with ⟨rfl, rfl⟩ | ⟨g1, g2, g3⟩
    · exact ⟨_, x', Env.upd_eq, hw, ho.mono hle⟩
    · obtain ⟨e, z, k1, k2, k3⟩ := hr.has y q g3
      refine ⟨e, z, hle _ _ k1, ?_, k3.mono hle⟩
      rw [hne e.1 fun e' => by
        rcases hr.inj _ _ _ _ _ _ g3 hg k1 hE e' with q | q
        · exact g2 q
        · rw [hro] at q; simp at q]
      exact k2
  · rcases get y q hq with ⟨rfl, rfl⟩ | ⟨g1, g2, g3⟩ <;> rcases get y' q' hq' with ⟨rfl, rfl⟩ | ⟨k1, k2, k3⟩
    · exact .inl rfl
    · rw [Env.upd_eq] at he
      rw [Env.upd_ne k1] at he'
      obtain rfl := Option.some.inj he
      rcases hr.inj _ _ _ _ _ _ k3 hg he' hE hee.symm with q | q
      · exact absurd q k2
      · rw [hro] at q; simp at q
    · rw [Env.upd_eq] at he'
      rw [Env.upd_ne g1] at he
      obtain rfl := Option.some.inj he'
      rcases hr.inj _ _ _ _ _ _ g3 hg he hE hee with q | q
      · exact absurd q g2
      · rw [hro] at q; simp at q
    · rw [Env.upd_ne g1] at he
      rw [Env.upd_ne k1] at he'
      exact hr.inj _ _ _ _ _ _ g3 k3 he he' hee
  · rcases get y q hq with ⟨rfl, rfl⟩ | ⟨g1, g2, g3⟩
    · rw [Env.upd_eq] at he
      obtain rfl := Option.some.inj he
      exact .inl ⟨h, o, _, hg, hE, hro, rfl⟩
    · rw [Env.upd_ne g1] at he
      exact .inl ⟨y, q, e, g3, he, hr', rfl⟩
omit hC in
/-- A block given up. -/
theorem out_forget {h : Nat} {o : VO} (hr : Rep E hp.t w) (hg : hp.t.get h = some o) : Out E hp w E (hp.put h none) w := by
  have get : ∀ y q, (hp.put h none).t.get y = some q → hp.t.get y = some q := fun y q hq => by
    have : (hp.put h none).t.get y = if y = h then none else hp.t.get y := Tr.get_set _ _ _
    rw [this] at hq
    split at hq
    · simp at hq
    · exact hq
  exact ⟨Env.le_refl E, fun _ _ => rfl, ⟨fun y q hq => hr.has y q (get y q hq), fun y y' q q' e e' hq hq' he he' hee => hr.inj _ _ _ _ _ _ (get _ _ hq) (get _ _ hq') he he' hee⟩,
    ⟨rfl, rfl, rfl, Nat.le_refl _, fun _ _ _ => rfl, fun y q e hq he hr' => .inl ⟨y, q, e, get y q hq, he, hr', rfl⟩⟩⟩
omit hC in
theorem run_append_none_room {t tx ty e : TypeId} {i : TypeInfo} (ht : P.underlying t = some (.slice e)) (hi : P.info? e = some i) {sLen sCap : Nat} {x : Value} {n : Nat} {news : List Value} (hs : Src P i.size tx x n news w) (hroom : sLen + n ≤ sCap) :
    (Builtin.append_ #[t, tx] ty #[.slice none sLen sCap, x]).run P w = .ok (.slice none (sLen + n) sCap) w := by
  rcases hs.kind with ⟨e', hk⟩ | hk <;> simp [Builtin.append_, run_underlying ht, run_underlying hk, sizeOf, typeInfo, hi, hs.len, hroom, hs.cells]
omit hC in
theorem TIok.full {t : TypeId} {ti : TI} (h : TIok P t ti) : ∃ i, P.info? t = some i ∧ i.size = ti.size ∧ i.bytes = ti.bytes := by
  obtain ⟨i, h1, h2, h3, _⟩ := h.info
  exact ⟨i, h1, h2, h3⟩
/-- A new row behind an append that found no room. -/
theorem append_new {tS tX ty e : TypeId} {ei : TI} {l n sCap : Nat} {base : Option Addr} {X : Value} {olds news : List V} {L O : List Value} {z : V} {hp0 hp' : Hp} {h' : Nat} {mk : Bool} (hR : Rep E hp.t w) (h0 : Out E hp w E hp0 w) (h0n : hp0.nx = hp.nx) (hts : P.underlying tS = some (.slice e)) (hei : TIok P e ei) (hz : ei.z = some z)
    (hold : (Builtin.firstCells ei.size l (.slice base l sCap)).run P w.drew = .ok O.toArray w.drew) (hO : renL E olds = some O) (hO1 : O.all (·.oneCell') = true) (hs : Src P ei.size tX X n L w) (hL : renL E news = some L)
    (hg : sCap < l + n) (hb : (Nat.ble (l + n) 1073741824 && Nat.ble ei.bytes 100000 && Nat.ble 1 ei.size && ei.z.isSome) = true) (hn : hp0.new (.cells (olds ++ news) e (some ei.size) mk) = some (h', hp')) :
    OkV P E hp w (Builtin.append_ #[tS, tX] ty #[.slice base l sCap, X]) (.sl (some (h', 0)) (l + n) (l + n) true) hp' := by
  simp only [Bool.and_eq_true] at hb
  obtain ⟨⟨⟨b1, b2⟩, b3⟩, b4⟩ := hb
  have b1 := Nat.le_of_ble_eq_true b1
  have b2 := Nat.le_of_ble_eq_true b2
  have b3 := Nat.le_of_ble_eq_true b3
  obtain ⟨i, hi, hsz, hby, hzz⟩ := hei.info
  obtain ⟨zv, hzv, hzr⟩ := hzz z hz
  obtain ⟨zc, hzc, hzl⟩ := hei.zl z hz
  obtain ⟨zL, k1, k2, k3⟩ := ren_cells (ofVal_ren hzr E) hzc
  have hzs : zv.cells.size = ei.size := by rw [k3]; simp [renL_len k1, hzl]
  rw [← hsz] at hold hs
  have hfit : Builtin.nextslicecap (l + n) sCap * i.bytes ≤ 281474976710656 := by
    refine growslice_fits_wide hg ?_
    rw [hby]
    calc (l + n + (l + n) / 4 + 192) * ei.bytes ≤ (1073741824 + 1073741824 / 4 + 192) * 100000 := Nat.mul_le_mul (by omega) b2
      _ ≤ 281474976710656 := by omega
  have hrun := run_append_grow_src (P := P) w tS tX ty e i zv hts hi hzv base l sCap O hold X n L hs hg (by omega) hfit
  have hcap : l + n ≤ grownCap w (l + n) sCap e := by unfold grownCap Question.cut; exact Nat.le_add_right _ _
  have hn' := new_some hn
  refine ⟨by omega, fun hf => ?_⟩
  have hd : Out E hp w E hp0 w.drew := h0.trans (out_same (h0.rep) rfl rfl rfl rfl rfl) (by omega) (Nat.le_refl _)
  have hobj : ObjRep E (.cells (olds ++ news) e (some ei.size) mk) (w.drew.heap.size, 0, grownCap w (l + n) sCap e - (l + n)) (.cells ((O ++ L).toArray ++ Builtin.zeroCells zv.cells (grownCap w (l + n) sCap e - (l + n))) e) := by
    refine ⟨[], O ++ L, (Builtin.zeroCells zv.cells (grownCap w (l + n) sCap e - (l + n))).toList, (0, 0), renL_app hO hL, ?_, rfl, ?_, fun h => by simp at h, fun s hs => ?_, fun _ => rfl, .inl rfl⟩
    · rw [List.all_append, hO1]
      simp only [Bool.true_and]
      exact List.all_eq_true.2 fun x hx => hs.one x hx
    · congr 1
      apply Array.ext'; simp
    · simp at hs; subst hs
      simp [Builtin.zeroCells, hzs]
  obtain ⟨q1, rfl, q2, q3⟩ := out_new (E := E) (w := w.drew) hn hd.rep (hf.mono (by omega) (Nat.le_refl _)) hobj
  exact ⟨_, _, _, hrun, by
    simp only [ren, q3, Option.map_some, if_true]
    congr 2
    omega, hd.trans q2 (by omega) q1⟩
omit hC in
theorem appF_nil {α : Type} (l : List α) : appF [] l = l := rfl
theorem vappend_ok {tS tX ty : TypeId} {s x v : V} {S X : Value} {hp' : Hp} (hR : Rep E hp.t w) (ht : srcT C tX = true) (h : vappend C hp tS s x = some (v, hp')) (hS : ren E s = some S) (hX : ren E x = some X) : OkV P E hp w (Builtin.append_ #[tS, tX] ty #[S, X]) v hp' := by
  simp only [vappend, appF_eq, Option.bind_eq_some_iff] at h
  obtain ⟨si, hsi, h⟩ := h
  have hT := tiV_ok hC hsi
  split at h
  · rename_i e base l c op hd
    have hts := hT.sl hd
    simp only [Option.bind_eq_some_iff] at h
    obtain ⟨ei, hei, ⟨n, new⟩, hnx, h⟩ := h
    have hei := tiV_ok hC hei
    obtain ⟨i, hi, hsz, hby⟩ := TIok.full hei
    obtain ⟨L, hL, hsrc⟩ := src_of hC hR ht hnx hX
    have hsrc' := hsrc
    rw [← hsz] at hsrc'
    split at h
    · rename_i hb
      have hb := Nat.le_of_ble_eq_true hb
      split at h
      · simp only [ren, Option.some.injEq] at hS
        subst hS
        split at h
        · simp only [Option.some.injEq, Prod.mk.injEq] at h
          obtain ⟨rfl, rfl⟩ := h
          exact okv_same hR (run_append_none_room hts hi hsrc' hb) rfl
        · simp at h
      · rename_i hh o
        simp only [Option.bind_eq_some_iff, Option.some.injEq, Prod.mk.injEq] at h
        obtain ⟨hp1, h1, rfl, rfl⟩ := h
        simp only [ren, Option.map_eq_some_iff] at hS
        obtain ⟨⟨b, k, ex⟩, he, rfl⟩ := hS
        obtain ⟨g1, g2, g3, g4⟩ := storeV_ok hR h1 hL (List.all_eq_true.2 fun u hu => hsrc.one u hu) he
        refine ⟨by omega, fun _ => ?_⟩
        have hcap : l + n ≤ (if op = true then c + ex else c) := by split <;> omega
        have e1 : k + (o + l * ei.size) = k + o + l * i.size := by rw [hsz]; omega
        rw [e1] at g2 g3 g4
        exact ⟨_, _, _, run_append_room_src (P := P) w tS tX ty e i hts hi b (k + o) l _ X n L hsrc' hcap g2 g3, by simp only [ren, he, Option.map_some], g4⟩
    · rename_i hb
      have hlt : c < l + n := by
        rcases Nat.lt_or_ge c (l + n) with h | h
        · exact h
        · rw [Nat.ble_eq_true_of_le h] at hb; simp at hb
      split at h
      · simp at h
      · rename_i hbnd
        have hzs : ei.z.isSome = true := by simp only [Bool.and_eq_true] at hbnd; exact hbnd.2
        obtain ⟨z, hz⟩ := Option.isSome_iff_exists.1 hzs
        split at h
        · split at h
          · simp only [Option.bind_eq_some_iff, Option.some.injEq, Prod.mk.injEq] at h
            obtain ⟨⟨h', hp1⟩, hn, rfl, rfl⟩ := h
            simp only [ren, Option.some.injEq] at hS
            subst hS
            have := append_new hC (ty := ty) (olds := []) (O := []) (l := 0) hR (out_refl hR) rfl hts hei hz (run_firstCells_none w.drew ei.size 0 0 c) rfl rfl hsrc hL hlt hbnd hn
            simpa using this
          · simp at h
        · rename_i hh o
          simp only [Option.bind_eq_some_iff, Option.some.injEq, Prod.mk.injEq] at h
          obtain ⟨old, hold, ⟨h', hp1⟩, hn, rfl, rfl⟩ := h
          simp only [ren, Option.map_eq_some_iff] at hS
          obtain ⟨⟨b, k, ex⟩, he, rfl⟩ := hS
          obtain ⟨O, g1, g2, g3, g4⟩ := loadV_ok hR hold
          refine append_new hC hR (out_refl hR) rfl hts hei hz ?_ g1 g3 hsrc hL (by simpa using hlt) hbnd hn
          have := run_loadCells_list (P := P) w.drew ⟨b, k + o, none⟩ O (fun j v hv => by rw [Addr.add_mid]; exact g4 b k ex he j v hv)
          rw [g2] at this
          exact this
        · rename_i hh o
          split at h
          · rename_i cs t sz mk hg
            obtain ⟨hg, hro⟩ := getW_some hg
            split at h
            · rename_i hck
              simp only [Bool.and_eq_true, Nat.beq_eq, lenF_eq] at hck
              obtain ⟨⟨c1, rfl⟩, rfl⟩ := hck
              simp only [Option.bind_eq_some_iff, Option.some.injEq, Prod.mk.injEq] at h
              obtain ⟨old, hold, ⟨h', hp1⟩, hn, rfl, rfl⟩ := h
              simp only [ren, Option.map_eq_some_iff] at hS
              obtain ⟨⟨b, k, ex⟩, he, rfl⟩ := hS
              obtain ⟨b', ex', pre, lv, sp, fz, h1, h2, h3, h4, h5, h6, h7, h8⟩ := rep_cells hR hg
              rw [he] at h1
              simp only [Option.some.injEq, Prod.mk.injEq] at h1
              obtain ⟨rfl, rfl, rfl⟩ := h1
              have hlv := renL_len h3
              have hca : cellsAt hp hh = some cs := by unfold cellsAt Hp.get; rw [hg]
              obtain ⟨b2, k2, ex2, O, i1, g1, g2, g3, g4⟩ := cellsAt_ok hR hca hold
              rw [he] at i1
              simp only [Option.some.injEq, Prod.mk.injEq] at i1
              obtain ⟨rfl, rfl, rfl⟩ := i1
              simp only [if_true]
              obtain ⟨o1, o2, o3⟩ := cutL_some hold
              have hO : O = (lv.drop o).take (l * ei.size) := by
                have := renL_take (l * ei.size) (renL_drop o h3)
                rw [← o1, g1] at this
                exact Option.some.inj this
              by_cases hroom : l + n ≤ c + ex
              · have hLl := hsrc.newsLen
                have hexs := h6 _ rfl
                have hmul : (l + n) * ei.size ≤ (c + ex) * ei.size := Nat.mul_le_mul_right _ hroom
                rw [Nat.add_mul, Nat.add_mul] at hmul
                have hlen : pre.length + o + l * ei.size + L.length ≤ (pre ++ lv ++ sp).length := by simp; omega
                have hrun := run_append_room_src (P := P) w tS tX ty t i hts hi b (pre.length + o) l (c + ex) X n L hsrc' hroom
                  (fun j hj => by
                    rw [hsz]
                    have : pre.length + o + l * ei.size + j < (pre ++ lv ++ sp).length := by omega
                    simp only [World.cell?, h2]
                    simp only [Option.isSome_none, Bool.false_eq_true, if_false, List.getElem?_toArray]
                    rw [List.getElem?_eq_getElem this]; rfl)
                  (fun j hj => by rw [hsz]; exact frozen_mid h2 h8 (by omega))
                rw [hsz] at hrun
                have hn' := new_some hn
                have hnx : (hp.put hh none).nx = hp.nx := rfl
                refine ⟨by omega, fun hf => ?_⟩
                obtain ⟨r1, r2, r3, r4⟩ := setCells_rest (b := b) L (pre.length + o + l * ei.size) w
                have hw := heap_setCells_at (b := b) (E := t) (fz := fz) L (pre.length + o + l * ei.size) w (pre ++ lv ++ sp) h2 hlen
                have hspl : ∃ A B, pre ++ lv ++ sp = A ++ B ∧ A.length = pre.length + o + l * ei.size ∧ A = (pre ++ lv.take o) ++ O := by
                  refine ⟨(pre ++ lv.take o) ++ O, lv.drop (o + l * ei.size) ++ sp, ?_, by simp [g2]; omega, rfl⟩
                  rw [hO]
                  have e1 : lv = lv.take o ++ ((lv.drop o).take (l * ei.size) ++ lv.drop (o + l * ei.size)) := by
                    rw [← List.drop_drop, List.take_append_drop, List.take_append_drop]
                  calc pre ++ lv ++ sp = pre ++ (lv.take o ++ ((lv.drop o).take (l * ei.size) ++ lv.drop (o + l * ei.size))) ++ sp := by rw [← e1]
                    _ = _ := by simp [List.append_assoc]
                obtain ⟨A, B, hAB, hA, hAe⟩ := hspl
                have hcells : (pre ++ lv ++ sp).take (pre.length + o + l * ei.size) ++ L ++ (pre ++ lv ++ sp).drop (pre.length + o + l * ei.size + L.length) = (pre ++ lv.take o) ++ (O ++ L) ++ B.drop L.length := by
                  rw [hAB, ← hA, List.take_left', List.drop_append, hAe]
                  · simp [List.append_assoc]
                  · rfl
                have hBl : B.length = (pre ++ lv ++ sp).length - (pre.length + o + l * ei.size) := by
                  have := congrArg List.length hAB
                  simp only [List.length_append] at this ⊢
                  omega
                have hobj : ObjRep E (.cells (old ++ new) t (some ei.size) mk) (b, pre.length + o, c + ex - (l + n)) (.cells ((pre ++ lv.take o) ++ (O ++ L) ++ B.drop L.length).toArray t fz) := by
                  refine ⟨pre ++ lv.take o, O ++ L, B.drop L.length, fz, renL_app g1 hL, ?_, by simp; omega, rfl, fun h => by simp at h, fun s hs => ?_, h7, ?_⟩
                  · rw [List.all_append, g3]
                    simp only [Bool.true_and]
                    exact List.all_eq_true.2 fun x hx => hsrc.one x hx
                  · simp at hs; subst hs
                    rw [List.length_drop, hBl, Nat.sub_mul, Nat.add_mul, Nat.add_mul]
                    simp; omega
                  · have : ((pre ++ lv.take o) ++ (O ++ L) ++ B.drop L.length).length = (pre ++ lv ++ sp).length := by
                      rw [← hcells]; simp; simp at hlen; omega
                    rw [this]; exact h8
                obtain ⟨q1, rfl, q2, q3⟩ := out_move (h := hh) hro hR hg he hn hf hobj (w' := w.setCells b (pre.length + o + l * ei.size) L) (by rw [hw, hcells]) (fun j hj => heap_setCells_other _ _ _ _ hj) r4 r1 r2 r3
                exact ⟨_, _, _, hrun, by
                  simp only [ren, q3, Option.map_some, if_true]
                  congr 2
                  omega, q2⟩
              · refine append_new hC hR (out_forget hR hg) rfl hts hei hz ?_ g1 g3 hsrc hL (by omega) hbnd hn
                have := run_loadCells_list (P := P) w.drew ⟨b, pre.length + o, none⟩ O (fun j v hv => by rw [Addr.add_mid]; exact g4 j v hv)
                rw [g2] at this
                exact this
            · simp at h
          · simp at h
  · simp at h
end
end Go.Proofs.YtaahfdjobpbpjaaGreatDoor
