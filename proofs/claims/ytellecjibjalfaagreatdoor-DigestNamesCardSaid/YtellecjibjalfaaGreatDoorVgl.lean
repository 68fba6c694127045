/- Vgl: sha's tables at a law's beginning. By this project. -/
import Derived.Test.YtellecjibjalfaaGreatDoorVsb
import Derived.Test.YtellecjibjalfaaGreatDoorVp
import Derived.Test.YtellecjibjalfaaGreatDoorCards
set_option linter.unusedVariables false
set_option linter.unusedSectionVars false
set_option linter.unusedSimpArgs false
set_option maxRecDepth 100000
namespace Go.Proofs.YtellecjibjalfaaGreatDoor
open Go.ChangeShapes Go.WideShapes Go.ChangeAt Go.RowKit Go.Extern.Stop

def wRaw (n : Nat) : V := .i .u32 (.ofNat n)
def firstW : List Nat := [1779033703, 3144134277, 1013904242, 2773480762, 1359893119, 2600822924, 528734635, 1541459225]
noncomputable def shaHp : Hp := ⟨(Tr.lf.set 0 (some (.cells (firstW.map wRaw) 87 none false))).set 2 (some (.cells (kW.map wRaw) 114 none false)), gMax, []⟩
noncomputable def sameT (hp : Hp) (g : Nat) (ks : List Nat) (T : TypeId) : Bool := match hp.t.get g with
  | some (.cells cs T' none false) => match Nat.beq T' T, mapO asW cs with
    | true, some ks' => eqN ks' ks
    | _, _ => false
  | _ => false
theorem asW_raw {v : V} {n : Nat} (h : asW v = some n) : v = wRaw n := by
  unfold asW at h
  split at h
  · split at h
    · simp only [Option.some.injEq] at h; subst h; rfl
    · simp at h
  · simp at h
theorem mapW_raw : ∀ {l : List V} {ks : List Nat}, mapO asW l = some ks → l = ks.map wRaw
  | [], ks, h => by simp [mapO_nil] at h; subst h; rfl
  | v :: r, ks, h => by
    rw [mapO_cons] at h
    cases hv : asW v with
    | none => rw [hv] at h; simp at h
    | some y =>
      rw [hv] at h
      cases hl : mapO asW r with
      | none => rw [hl] at h; simp at h
      | some ys =>
        rw [hl] at h
        simp at h
        subst h
        rw [asW_raw hv, mapW_raw hl]; rfl
theorem sameT_eq {hp : Hp} {g : Nat} {ks : List Nat} {T : TypeId} (h : sameT hp g ks T = true) : hp.t.get g = some (.cells (ks.map wRaw) T none false) := by
  unfold sameT at h
  split at h
  · rename_i cs T' hg
    split at h
    · rename_i ks' hT hks
      rw [hg, Nat.eq_of_beq_eq_true hT, mapW_raw hks, eqN_eq h]
    · simp at h
  · simp at h
noncomputable def shaTrue (r : Option (VR × Hp)) : Bool := match r with
  | some (.v (.b true), hp) => sameT hp 0 firstW 87 && sameT hp 2 kW 114
  | _ => false
theorem shaTrue_some {r : Option (VR × Hp)} (h : shaTrue r = true) : ∃ hp', r = some (.v (.b true), hp') ∧ sameT hp' 0 firstW 87 = true ∧ sameT hp' 2 kW 114 = true := by
  unfold shaTrue at h
  split at h
  · simp only [Bool.and_eq_true] at h
    exact ⟨_, rfl, h.1, h.2⟩
  · simp at h
theorem raw_ren {E : Env} : ∀ (ks : List Nat), renL E (ks.map wRaw) = some (ks.map fun (n : Nat) => Value.int .u32 (n : Int))
  | [] => rfl
  | k :: r => by simp [renL, wRaw, ren, raw_ren r]
theorem raw_one (ks : List Nat) : (ks.map fun (n : Nat) => Value.int .u32 (n : Int)).all (·.oneCell') = true := by
  rw [List.all_map, List.all_eq_true]
  exact fun x _ => rfl
/-- An array of whole numbers, as it is read. -/
theorem trod_ints {H : Type} {enc : TypeId × Value → H} {P : Program} {w : World} {base fuel : Nat} {sp : Nat → Bool} {held : Bool} {t e : TypeId} {k : IntKind} {n : Nat} {cs : List Value} {l : List Nat} {p : List MemPlace}
    (hT : arrayT P t = some (n, e)) (he : intT P e = some k) (hc : P.cellsOf e = 1) (hs : P.cellsOf t = n) (h : DataW.trod enc P w base sp held fuel t cs = some (.agg (l.map fun (z : Nat) => DataW.lit (.int k (z : Int))), p)) : cs = l.map fun (z : Nat) => Value.int k (z : Int) := by
  obtain ⟨xs, m, _, hx, hl, hxl, hf⟩ := DataW.trod_array (und_array hT) h
  have hds : (l.map fun (z : Nat) => DataW.lit (H := H) (.int k (z : Int))) = xs.map (·.1) := by
    have := congrArg Prod.fst hx
    simpa using this
  have hll : l.length = n := by have := congrArg List.length hds; simpa [hxl] using this
  apply List.ext_getElem?
  intro i
  rcases Nat.lt_or_ge i n with hi | hi
  · have h3 := hf i hi
    rw [hc, Nat.mul_one, List.getElem?_eq_getElem (by omega)] at h3
    have e1 : xs[i].1 = DataW.lit (.int k ((l[i]'(by omega) : Nat) : Int)) := by
      have := congrArg (·[i]?) hds
      simp only [List.getElem?_map, List.getElem?_eq_getElem (show i < l.length by omega), List.getElem?_eq_getElem (show i < xs.length by omega), Option.map_some, Option.some.injEq] at this
      exact this.symm
    have h4 : DataW.trod enc P w base sp held m e ((cs.drop i).take 1) = some (.lit (.int k ((l[i]'(by omega) : Nat) : Int)), xs[i].2) := by rw [h3, ← e1]
    rw [trod_int1 he h4, List.getElem?_map, List.getElem?_eq_getElem (by omega)]
    rfl
  · rw [List.getElem?_eq_none (by omega), List.getElem?_eq_none (by simp; omega)]
theorem glob_cells {P : Program} {W : World} {name : String} {g : Nat} {cs cs' : Array Value} {t : TypeId} {fz : Nat × Nat} (hg : P.globalNamed name = some g) (hv : W.var? P name = some cs) (hh : W.heap[g]? = some (.cells cs' t fz)) : cs' = cs := by
  unfold World.var? at hv
  rw [hg] at hv
  simp only [Option.bind_some, hh, Option.some.injEq] at hv
  exact hv
def rowOf (P : Program) (g : Nat) : Option TypeId := ((begin P (fun _ _ => 0) default).world.heap[g]?).bind Obj.row? |>.map (·.2)
theorem shaped_glob {P : Program} {W : World} (h : W.ShapedOpen P) {g : Nat} {t : TypeId} (hg : g < P.globals.size) (hr : rowOf P g = some t) : ∃ cs, W.heap[g]? = some (.cells cs t (0, 0)) := by
  unfold rowOf at hr
  simp only [Option.map_eq_some_iff] at hr
  obtain ⟨⟨z, t'⟩, h1, rfl⟩ := hr
  obtain ⟨cs, h2, _⟩ := h.1 g z t' hg h1
  exact ⟨cs, h2⟩
/-- The two tables, as the row's list gives them. -/
theorem sha_gl {W : World} (hL : laidMetH Tryz.prog [("cairn/sha.k", Rows.laid_cairn_sha_k), ("cairn/sha.first", Rows.laid_cairn_sha_first)] W) (hS : W.ShapedOpen Tryz.prog) : GlOk shaHp.t W := by
  have h' : laidMet Tryz.prog [("cairn/sha.k", Rows.laid_cairn_sha_k), ("cairn/sha.first", Rows.laid_cairn_sha_first)] W := hL
  obtain ⟨ps, ⟨g, t, cs, fuel, p, q, hg, ht, hvar, hd, ⟨g2, t2, cs2, fuel2, p2, q2, hg2, ht2, hvar2, hd2, _, _⟩, _⟩, _⟩ := h'
  obtain rfl : g = 2 := Option.some.inj (hg.symm.trans (by kernel_rfl))
  obtain rfl : t = 114 := Option.some.inj (ht.symm.trans (by kernel_rfl))
  obtain rfl : g2 = 0 := Option.some.inj (hg2.symm.trans (by kernel_rfl))
  obtain rfl : t2 = 87 := Option.some.inj (ht2.symm.trans (by kernel_rfl))
  have c1 := trod_ints (P := Tryz.prog) (e := 47) (k := .u32) (n := 64) (l := kW) (by kernel_rfl) (by kernel_rfl) (by kernel_rfl) (by kernel_rfl) hd
  have c2 := trod_ints (P := Tryz.prog) (e := 47) (k := .u32) (n := 8) (l := firstW) (by kernel_rfl) (by kernel_rfl) (by kernel_rfl) (by kernel_rfl) hd2
  obtain ⟨a1, b1⟩ := shaped_glob hS (g := 2) (t := 114) (by rw [Tryz.globals_size]; decide) (by kernel_rfl)
  obtain ⟨a2, b2⟩ := shaped_glob hS (g := 0) (t := 87) (by rw [Tryz.globals_size]; decide) (by kernel_rfl)
  obtain rfl := glob_cells hg hvar b1
  obtain rfl := glob_cells hg2 hvar2 b2
  intro h o ho
  unfold shaHp at ho
  simp only at ho
  rw [Tr.get_set _ _ _ (by decide)] at ho
  split at ho
  · rename_i e
    subst e
    simp only [Option.some.injEq] at ho
    subst ho
    refine ⟨by decide, _, _, _, rfl, fun E => raw_ren kW, raw_one kW, ?_⟩
    rw [b1, ← c1]
  · rw [Tr.get_set _ _ _ (by decide)] at ho
    split at ho
    · rename_i e
      subst e
      simp only [Option.some.injEq] at ho
      subst ho
      refine ⟨by decide, _, _, _, rfl, fun E => raw_ren firstW, raw_one firstW, ?_⟩
      rw [b2, ← c2]
    · rw [Tr.get_eq, tr_get_lf] at ho; simp at ho
theorem sha_law {call : CallF} (hc : CallOk Tryz.prog call) {f : Nat} (h : shaTrue (call f [] shaHp) = true) {W : World} (hg : GlOk shaHp.t W) : Calls Tryz.prog f #[] W fun e W' => e = .returned (.bool true) ∧ Below W.heap.size W W' := by
  obtain ⟨hp', h1, h2, h3⟩ := shaTrue_some h
  refine law_calls hc h1 (fun E => rfl) (Nat.le_refl _) hg fun i o ho => ?_
  unfold shaHp at ho
  simp only at ho
  rw [Tr.get_set _ _ _ (by decide)] at ho
  split at ho
  · rename_i e
    subst e
    rw [sameT_eq h3, ho]
  · rw [Tr.get_set _ _ _ (by decide)] at ho
    split at ho
    · rename_i e
      subst e
      rw [sameT_eq h2, ho]
    · rw [Tr.get_eq, tr_get_lf] at ho; simp at ho
end Go.Proofs.YtellecjibjalfaaGreatDoor
