/-
  Trial: the table of the boots, as the rows list it.
-/
import Derived.Test.YtddgmlbbipakeaaDoorW11
import Derived.Test.YtddgmlbbipakeaaDoorVx
import Derived.Test.YtddgmlbbipakeaaDoorCards
import Derived.Test.YtddgmlbbipakeaaDoorTie
namespace Go.Proofs.YtddgmlbbipakeaaDoor
open Go.RowKit Go.ChangeShapes Go.WideShapes V
set_option maxRecDepth 100000
theorem own : ownKnob Tryd.prog.godebug = none := by kernel_rfl
theorem laidOut : laidOutB Tryd.prog = true := by kernel_rfl
def boots_laid : List (String × DataW Unit) := [("inlay/trial.boots", Rows.laid_inlay_trial_boots)]
theorem gBoots : Tryd.prog.globalNamed "inlay/trial.boots" = some 0 := by kernel_rfl
theorem gBootsType : (Tryd.prog.globals[0]?).map (·.type) = some 61 := by kernel_rfl
theorem fn_cell {W : World} {fuel : Nat} {v : Value} {p : List MemPlace} (h : DataW.trod (funcToken Tryd.prog) Tryd.prog W 0 (fun _ => true) true fuel 42 [v] = some (.nil, p)) : v = .nilFunc := by
  cases fuel with
  | zero => simp [DataW.trod] at h
  | succ n => cases v <;> simp [DataW.trod, Tryd.underlying42] at h ⊢
theorem trod_arr {H : Type} {enc : TypeId × Value → H} {P : Program} {W : World} {fuel n : Nat} {t e : TypeId} {cs : List Value} {x : DataW H} {ps : List MemPlace} (hu : P.underlying t = some (.array n e)) (h : DataW.trod enc P W 0 (fun _ => true) true fuel t cs = some (x, ps)) :
    ∃ (xs : List (DataW H × List MemPlace)) (m : Nat), x = .agg (xs.map (·.1)) ∧ cs.length = P.cellsOf t ∧ xs.length = n ∧ ∀ i, i < n → DataW.trod enc P W 0 (fun _ => true) true m e ((cs.drop (i * P.cellsOf e)).take (P.cellsOf e)) = xs[i]? := by
  cases fuel with
  | zero => simp [DataW.trod] at h
  | succ m =>
    unfold DataW.trod at h
    rw [hu] at h
    split at h <;> simp_all
    obtain ⟨hl, xs, hp, hd⟩ := h
    exact ⟨xs, hd.1.symm, by simpa using mapM_some_length hp, m, fun i hi => mapM_some_get hp i i (by simp [hi])⟩
theorem boots_glob (W : World) (h : laidMetH Tryd.prog boots_laid W) : GOk Γt (fun _ => False) W := by
  obtain ⟨g, t, cs, fuel, p, hg, ht, hv, hd⟩ := h.funcs (n := "inlay/trial.boots") (List.mem_cons_self ..)
  obtain rfl := Option.some.inj (gBoots.symm.trans hg)
  obtain rfl := Option.some.inj (gBootsType.symm.trans ht)
  obtain ⟨xs, m, hx, hl, hxl, hel⟩ := trod_arr Tryd.underlying61 hd
  have c1 : Tryd.prog.cellsOf 42 = 1 := by kernel_rfl
  have c7 : Tryd.prog.cellsOf 61 = 7 := by kernel_rfl
  rw [c7] at hl
  have hx' : DataW.agg (xs.map (·.1)) = .agg [.held [105, 110, 108, 97, 121, 47, 116, 114, 105, 97, 108, 46, 98, 111, 111, 116, 115, 36, 49], .nil, .nil, .nil, .nil, .held [105, 110, 108, 97, 121, 47, 116, 114, 105, 97, 108, 46, 98, 111, 111, 116, 115, 36, 50], .nil] := hx.symm
  simp only [DataW.agg.injEq] at hx'
  have cell : ∀ (i : Nat) (hi : i < 7) (d : DataW (List UInt8)), (xs.map (·.1))[i]? = some d → ∃ v q, cs.toList[i]? = some v ∧ DataW.trod (funcToken Tryd.prog) Tryd.prog W 0 (fun _ => true) true m 42 [v] = some (d, q) := fun i hi d hd' => by
    have ht := hel i hi
    rw [c1, Nat.mul_one] at ht
    rw [List.drop_eq_getElem_cons (by omega)] at ht
    simp only [List.take_succ_cons, List.take_zero] at ht
    rw [List.getElem?_map] at hd'
    cases hy : xs[i]? with
    | none => simp [hy] at hd'
    | some y =>
      rw [hy] at hd' ht
      simp only [Option.map_some, Option.some.injEq] at hd'
      subst hd'
      exact ⟨_, _, List.getElem?_eq_getElem (by omega), ht⟩
  rw [hx'] at cell
  obtain ⟨v0, q0, e0, h0⟩ := cell 0 (by decide) _ rfl
  obtain ⟨v1, q1, e1, h1⟩ := cell 1 (by decide) _ rfl
  obtain ⟨v2, q2, e2, h2⟩ := cell 2 (by decide) _ rfl
  obtain ⟨v3, q3, e3, h3⟩ := cell 3 (by decide) _ rfl
  obtain ⟨v4, q4, e4, h4⟩ := cell 4 (by decide) _ rfl
  obtain ⟨v5, q5, e5, h5⟩ := cell 5 (by decide) _ rfl
  obtain ⟨v6, q6, e6, h6⟩ := cell 6 (by decide) _ rfl
  obtain rfl := func_of_trod (f0 := 45) Tryd.underlying42 (by kernel_rfl) h0
  obtain rfl := fn_cell h1
  obtain rfl := fn_cell h2
  obtain rfl := fn_cell h3
  obtain rfl := fn_cell h4
  obtain rfl := func_of_trod (f0 := 46) Tryd.underlying42 (by kernel_rfl) h5
  obtain rfl := fn_cell h6
  have hcell : ∀ i : Nat, W.cell? ⟨0, i, none⟩ = cs[i]? := fun i => World.var?_cell hg hv i
  intro g e hge
  have hcs : ∀ i v, cs.toList[i]? = some v → W.cell? ⟨0, i, none⟩ = some v := fun i v hi => by rw [hcell]; simpa using hi
  have : g = 0 ∧ e = .g 7 1 bootsF := by
    unfold Γt at hge
    simp only [gl] at hge
    split at hge
    · rename_i hb
      exact ⟨(Nat.eq_of_beq_eq_true hb).symm, by simpa using hge.symm⟩
    · cases hge
  obtain ⟨rfl, rfl⟩ := this
  have key : ∀ i, i < 7 → ∃ v, W.cell? ⟨0, i, none⟩ = some v ∧ Items E0 (fun _ => False) W (bootsF i) [v] := fun i hi => by
    match i, hi with
    | 0, _ => exact ⟨_, hcs _ _ e0, .one _ _ _ _ rfl (.fn 45 [] [] .nil) .nil⟩
    | 1, _ => exact ⟨_, hcs _ _ e1, .one _ _ _ _ rfl .nilf .nil⟩
    | 2, _ => exact ⟨_, hcs _ _ e2, .one _ _ _ _ rfl .nilf .nil⟩
    | 3, _ => exact ⟨_, hcs _ _ e3, .one _ _ _ _ rfl .nilf .nil⟩
    | 4, _ => exact ⟨_, hcs _ _ e4, .one _ _ _ _ rfl .nilf .nil⟩
    | 5, _ => exact ⟨_, hcs _ _ e5, .one _ _ _ _ rfl (.fn 46 [] [] .nil) .nil⟩
    | 6, _ => exact ⟨_, hcs _ _ e6, .one _ _ _ _ rfl .nilf .nil⟩
  obtain ⟨c, hc⟩ := Deep.choose_lt (p := fun i v => W.cell? ⟨0, i, none⟩ = some v ∧ Items E0 (fun _ => False) W (bootsF i) [v]) key
  refine .rop _ 0 0 0 0 (fun i => [c i]) (fun h => h) (fun i _ => rfl) (fun i j v hi hj => ?_) (fun i hi => (hc i hi).2) (by decide) (by decide) (block_lt_of_cell (hc 0 (by decide)).1)
  cases j with
  | zero =>
    simp only [List.getElem?_cons_zero, Option.some.injEq] at hj
    subst hj
    have := (hc i hi).1
    simpa [EV.sz] using this
  | succ j => simp at hj
theorem pk_of {H : Type} (d : DataW H) : ∃ p : Pk, svV Tryd.prog 37 d = p.v := by
  refine ⟨⟨_, _, _, _, _, _, _, _, _, _, _, ?_, ?_, ?_, ?_⟩, rfl⟩
  all_goals first | exact trivial | exact fun i _ => svI_pure _ _ _
theorem door_met (os : Os) (args : Array Value) : laidMetH Tryd.prog boots_laid ((World.doorLaid Tryd.prog 200 os).forCall (fun _ _ => 0) ⟨#[], args, []⟩).memory :=
  laidMetH_of_parts3 (fuel := 8) (laidMet_of_run' 8 (by kernel_rfl) (by kernel_rfl)) (by kernel_rfl) (by kernel_rfl)
end Go.Proofs.YtddgmlbbipakeaaDoor
