/-
  Joined texts: SU: Settings: Parse of the program.
  SW: Settings: Made, Rules, Fitting.
  SI: Settings: the closure that run defers.
  Cq: Contracts of functions that defer a closure which recovers.
  SJ: Settings: run.
  SX: Settings: Made, Fitting.
  ST: Settings, the reference: numbers in texts, Print.
  SV: Settings, the reference: Parse.
  SL: Settings: migrate, Forward, Back.
  Cr: The engine: a slice of literals in a region that draws its order, seen as read-only at once.
  SY: Settings: sample, refuses, sanity.
  SZa: Settings: the laws Back and Parts.
  SZw: Settings: what the rows list, as the door lays it; a law's step where the tables are those of the world.
  SZr: Settings: what the laws' arguments read as.
-/
import Derived.Test.YtpbgihhfcdggkaaGreatDoorQD
import Derived.Test.YtpbgihhfcdggkaaGreatDoorQC
import Derived.Tactics
import Derived.Tactics2
import Derived.Recover
import Derived.Laws.Pointers
import Derived.Test.YtpbgihhfcdggkaaGreatDoorCards
import Derived.Test.YtpbgihhfcdggkaaGreatDoorTie
import Derived.Lib.LaidTab
import Derived.MakeChecks
import Derived.Stop.LaidErr
import Derived.Shelf.Vars
import Derived.Lay
section
namespace Go.Proofs.YtpbgihhfcdggkaaGreatDoor
open Go.RowKit V
set_option maxRecDepth 100000
set_option maxHeartbeats 4000000
set_option linter.unusedSimpArgs false
set_option linter.unusedVariables false
attribute [local irreducible] V.Sat V.DSat
theorem fold_at {α : Type} (f : α → List UInt8 → α) (i : α) (L : List (List UInt8)) (x : Nat) (hx : x < L.length) : (L.take (x + 1)).foldl f i = f ((L.take x).foldl f i) (L.getD x []) := by
  have e : L.take (x + 1) = L.take x ++ [L.getD x []] := by
    rw [List.take_add_one, List.getD_eq_getElem?_getD, List.getElem?_eq_getElem hx]
    rfl
  rw [e, List.foldl_append]
  rfl
theorem stepB_1 (acc : List ValL × List ValL) (l : List UInt8) (h : (cutF 32 l).1 = valW) : stepB acc l = (acc.1 ++ [⟨(cutF 32 (cutF 32 l).2).1, (cutF 32 (cutF 32 l).2).2⟩], acc.2) := if_pos h
theorem stepB_2 (acc : List ValL × List ValL) (l : List UInt8) (h : ¬ (cutF 32 l).1 = valW) (h2 : l = keptZ) : stepB acc l = (acc.1, acc.2 ++ [val0]) := (if_neg h).trans (if_pos h2)
theorem stepB_3 (acc : List ValL × List ValL) (l : List UInt8) (h : ¬ (cutF 32 l).1 = valW) (h2 : ¬ l = keptZ) (h3 : (cutF 32 l).1 = keptW) : stepB acc l = (acc.1, acc.2 ++ [⟨(cutF 32 (cutF 32 l).2).1, (cutF 32 (cutF 32 l).2).2⟩]) := (if_neg h).trans ((if_neg h2).trans (if_pos h3))
theorem stepB_4 (acc : List ValL × List ValL) (l : List UInt8) (h : ¬ (cutF 32 l).1 = valW) (h2 : ¬ l = keptZ) (h3 : ¬ (cutF 32 l).1 = keptW) : stepB acc l = acc := (if_neg h).trans ((if_neg h2).trans (if_neg h3))
theorem res_cond (s t : List UInt8) : (bif decide (s = []) then true else decide (t ≠ s)) = true ↔ (s = [] ∨ t ≠ s) := by
  by_cases h : s = []
  · rw [decide_eq_true h]; simp [h]
  · rw [decide_eq_false h, cond_false, decide_eq_true_eq]
    exact ⟨.inr, fun q => q.resolve_left h⟩
section
variable {a b : TypeId} {p q : Value}
theorem cutS_spec (s : List UInt8) (hs : s.length ≤ 1000000) : Fun Tryz.prog (Γs a b p q) 52 [.str s, .str [32]] (.tup [.str (cutF 32 s).1, .str (cutF 32 s).2, .bool (Lib.cut s [32]).2.2]) := by
  have h := cut_spec (a := a) (b := b) (p := p) (q := q) s hs
  rw [(cut_F 32 s).1, (cut_F 32 s).2] at h
  exact h
theorem parse_core1 (s : List UInt8) (hs : s.length ≤ 1000000) (hat : Fun Tryz.prog (Γs a b p q) 51 [.str (cutP ((spl 10 s).getD (0 : Int).toNat []))] (.tup [.int .i64 (numV (cutP ((spl 10 s).getD (0 : Int).toNat []))), .nili])) :
    Fun Tryz.prog (Γs a b p q) 24 [.str s] (.tup [(resP Lib.itoa readP s).1.v, .int .i64 (resP Lib.itoa readP s).2]) := by
  have hsp := split_spec (a := a) (b := b) (p := p) (q := q) s hs
  have hcp := cutp_spec (Γs a b p q) ((spl 10 s).getD (0 : Int).toNat [])
  have hln := (spl_len 10 s).1
  have hne : spl 10 s ≠ [] := by rw [spl_lines]; exact linesB_ne s
  have hpos : 0 < (spl 10 s).length := List.length_pos_iff.2 hne
  refine Fun.mk 7 Tryz.func24 rfl Tryz.ntmps24 rfl rfl fun T w0 => ?_
  repeat' (first
    | ((with_reducible apply Sat.run (X := X64)); exact rfl; (first | exact True.intro | (exact phi) | skip))
    | ((with_reducible apply Sat.call (hsp)); exact rfl; exact rfl; kernel_rfl; (exact cnvX); exact rfl)
    | ((with_reducible apply Sat.callR (hcp)); exact rfl; exact rfl; exact rfl; kernel_rfl; (exact cnvX); exact rfl)
    | ((with_reducible apply Sat.call (hat)); exact rfl; exact rfl; kernel_rfl; (exact cnvX); exact rfl) | fail)
  · apply Sat.loop (α := Nat × (List ValL × List ValL)) (fun x => x.1 ≤ (spl 10 s).tail.length ∧ Hd (x.2 = ((spl 10 s).tail.take x.1).foldl stepB ([], [])) ∧ x.2.1.length + x.2.2.length ≤ x.1) (fun x => (spl 10 s).tail.length - x.1) (0, ([], [])) (fun x => [(34, .int .i64 (x.1 : Int))]) (fun x => [(1, .cells 32 [.int .i64 (numV (cutP ((spl 10 s).getD (0 : Int).toNat []))), .row 2 0 2 0 x.2.1.length, .row 3 0 2 0 x.2.2.length]), (2, .row 53 (valE x.2.1)), (3, .row 53 (valE x.2.2))]) [] [(2, none), (3, none)] 2
    · intro x; exact rfl
    · intro x; exact rfl
    · exact rfl
    · exact rfl
    · ((repeat' (first | exact AllP.nil | with_reducible refine AllP.cons ?_ ?_)) <;> first | exact rfl | exact trivial | exact Int.natCast_add_one _ | exact ⟨rfl, rfl⟩ | exact ⟨rfl, rfl, rfl⟩ | exact ⟨rfl, rfl, rfl, rfl⟩ | exact ⟨rfl, .inl rfl⟩ | exact ⟨rfl, .inr rfl⟩ | exact pur | (intro _; exact rfl) | (intro _; exact trivial) | (intro _; exact pur) | first | exact pur_val _ | (intro _ _; simp [pureL, pureS, pureE]; done))
    · exact ⟨Nat.zero_le _, ⟨rfl⟩, Nat.le_refl _⟩
    · rintro ⟨x, G, H⟩ ⟨x1, x2, x3⟩
      dsimp only at x1 x2 x3 ⊢
      have htl : (spl 10 s).tail.length = (spl 10 s).length - 1 := List.length_tail
      by_cases hx : x < (spl 10 s).tail.length
      · have hlen := spl_get 10 s (x + 1)
        have e1 : (spl 10 s).getD (1 + (x : Int).toNat) [] = (spl 10 s).getD (x + 1) [] := by rw [Int.toNat_natCast, Nat.add_comm]
        have e2 : (spl 10 s).getD (x + 1) [] = (spl 10 s).tail.getD x [] := by
          cases hh : spl 10 s with
          | nil => exact absurd hh hne
          | cons y r => rfl
        have hlt : x + 1 < (spl 10 s).length := by omega
        rw [← e1] at hlen
        have hc1 := cutS_spec (a := a) (b := b) (p := p) (q := q) ((spl 10 s).getD (1 + (x : Int).toNat) []) (by omega)
        have hfold : ∀ G', stepB (G, H) ((spl 10 s).getD (1 + (x : Int).toNat) []) = G' → Hd (G' = ((spl 10 s).tail.take (x + 1)).foldl stepB ([], [])) := fun G' hG => ⟨by rw [fold_at _ _ _ _ hx, ← x2.get, ← e2, ← e1, hG]⟩
        have hc2 := cutS_spec (a := a) (b := b) (p := p) (q := q) (cutF 32 ((spl 10 s).getD (1 + (x : Int).toNat) [])).2 (by rw [← (cut_F 32 _).2]; have := (cut_len ((spl 10 s).getD (1 + (x : Int).toNat) []) [32]).2; omega)
        repeat' (first
          | ((with_reducible apply Sat.cond_pt); exact rfl; dsimp only [V.EV.len, Option.getD]; omega)
          | ((with_reducible apply Sat.run (X := X64)); exact rfl; (first | exact True.intro | (exact phi) | skip))
          | ((with_reducible apply Sat.cond_p); exact rfl; all_goals intro h)
          | ((with_reducible apply Sat.callR (hc1)); exact rfl; exact rfl; exact rfl; kernel_rfl; (exact cnvX); exact rfl)
          | ((with_reducible apply Sat.callR (hc2)); exact rfl; exact rfl; exact rfl; kernel_rfl; (exact cnvX); exact rfl) | fail)
        all_goals try ((with_reducible refine AllP.cons ?_ ?_) <;> ((repeat' (first | exact AllP.nil | with_reducible refine AllP.cons ?_ ?_)) <;> first | exact rfl | exact inR_i64 (by omega) (by omega) | (dsimp only [V.EV.len, V.EV.sub]; omega) | done))
        · have hh := h
          have hG : stepB (G, H) ((spl 10 s).getD (1 + (x : Int).toNat) []) = (G ++ [(⟨(cutF 32 (cutF 32 ((spl 10 s).getD (1 + (x : Int).toNat) [])).2).1, (cutF 32 (cutF 32 ((spl 10 s).getD (1 + (x : Int).toNat) [])).2).2⟩ : ValL)], H) := stepB_1 _ _ hh
          refine Sat.reX (i := 5) (valE (G ++ [(⟨(cutF 32 (cutF 32 ((spl 10 s).getD (1 + (x : Int).toNat) [])).2).1, (cutF 32 (cutF 32 ((spl 10 s).getD (1 + (x : Int).toNat) [])).2).2⟩ : ValL)])) rfl rfl (by simp [EV.len, EV.sub]) rfl (fun y hy => app_row G (⟨(cutF 32 (cutF 32 ((spl 10 s).getD (1 + (x : Int).toNat) [])).2).1, (cutF 32 (cutF 32 ((spl 10 s).getD (1 + (x : Int).toNat) [])).2).2⟩ : ValL) y (by simpa [EV.len] using hy)) ?_
          refine Sat.back (x + 1, (G ++ [(⟨(cutF 32 (cutF 32 ((spl 10 s).getD (1 + (x : Int).toNat) [])).2).1, (cutF 32 (cutF 32 ((spl 10 s).getD (1 + (x : Int).toNat) [])).2).2⟩ : ValL)], H)) [(2, some 5)] rfl ?_ ?_ ?_
          · (repeat' (first | exact AllP.nil | with_reducible refine AllP.cons ?_ ?_)) <;> first | exact rfl | exact trivial | exact Int.natCast_add_one _ | exact ⟨rfl, rfl, rfl, rfl⟩ | exact ⟨rfl, rfl, rfl, (by simp [EV.len, EV.sub])⟩ | exact purX | exact pur_val _ | exact fun _ _ => rfl
          · refine ⟨hx, hfold _ hG, ?_⟩
            show ((G ++ [(⟨(cutF 32 (cutF 32 ((spl 10 s).getD (1 + (x : Int).toNat) [])).2).1, (cutF 32 (cutF 32 ((spl 10 s).getD (1 + (x : Int).toNat) [])).2).2⟩ : ValL)], H) : List ValL × List ValL).1.length + ((G ++ [(⟨(cutF 32 (cutF 32 ((spl 10 s).getD (1 + (x : Int).toNat) [])).2).1, (cutF 32 (cutF 32 ((spl 10 s).getD (1 + (x : Int).toNat) [])).2).2⟩ : ValL)], H) : List ValL × List ValL).2.length ≤ x + 1
            simp only [List.length_append, List.length_cons, List.length_nil]; omega
          · show (spl 10 s).tail.length - (x + 1) < (spl 10 s).tail.length - x
            omega
        · rename_i hh
          have hk := h
          have hG : stepB (G, H) ((spl 10 s).getD (1 + (x : Int).toNat) []) = (G, H ++ [val0]) := stepB_2 _ _ hh hk
          refine Sat.reX (i := 5) (valE (H ++ [v00])) rfl rfl (by simp [EV.len, EV.sub]) rfl (fun y hy => app_row H v00 y (by simpa [EV.len] using hy)) ?_
          refine Sat.back (x + 1, (G, H ++ [val0])) [(3, some 5)] rfl ?_ ?_ ?_
          · (repeat' (first | exact AllP.nil | with_reducible refine AllP.cons ?_ ?_)) <;> first | exact rfl | exact trivial | exact Int.natCast_add_one _ | exact ⟨rfl, rfl, rfl, rfl⟩ | exact ⟨rfl, rfl, rfl, (by simp [EV.len, EV.sub])⟩ | exact purX | exact pur_val _ | exact fun _ _ => rfl
          · refine ⟨hx, hfold _ hG, ?_⟩
            show ((G, H ++ [val0]) : List ValL × List ValL).1.length + ((G, H ++ [val0]) : List ValL × List ValL).2.length ≤ x + 1
            simp only [List.length_append, List.length_cons, List.length_nil]; omega
          · show (spl 10 s).tail.length - (x + 1) < (spl 10 s).tail.length - x
            omega
        · rename_i hh hk
          have hm := h
          have hG : stepB (G, H) ((spl 10 s).getD (1 + (x : Int).toNat) []) = (G, H ++ [(⟨(cutF 32 (cutF 32 ((spl 10 s).getD (1 + (x : Int).toNat) [])).2).1, (cutF 32 (cutF 32 ((spl 10 s).getD (1 + (x : Int).toNat) [])).2).2⟩ : ValL)]) := stepB_3 _ _ hh hk hm
          refine Sat.reX (i := 5) (valE (H ++ [(⟨(cutF 32 (cutF 32 ((spl 10 s).getD (1 + (x : Int).toNat) [])).2).1, (cutF 32 (cutF 32 ((spl 10 s).getD (1 + (x : Int).toNat) [])).2).2⟩ : ValL)])) rfl rfl (by simp [EV.len, EV.sub]) rfl (fun y hy => app_row H (⟨(cutF 32 (cutF 32 ((spl 10 s).getD (1 + (x : Int).toNat) [])).2).1, (cutF 32 (cutF 32 ((spl 10 s).getD (1 + (x : Int).toNat) [])).2).2⟩ : ValL) y (by simpa [EV.len] using hy)) ?_
          refine Sat.back (x + 1, (G, H ++ [(⟨(cutF 32 (cutF 32 ((spl 10 s).getD (1 + (x : Int).toNat) [])).2).1, (cutF 32 (cutF 32 ((spl 10 s).getD (1 + (x : Int).toNat) [])).2).2⟩ : ValL)])) [(3, some 5)] rfl ?_ ?_ ?_
          · (repeat' (first | exact AllP.nil | with_reducible refine AllP.cons ?_ ?_)) <;> first | exact rfl | exact trivial | exact Int.natCast_add_one _ | exact ⟨rfl, rfl, rfl, rfl⟩ | exact ⟨rfl, rfl, rfl, (by simp [EV.len, EV.sub])⟩ | exact purX | exact pur_val _ | exact fun _ _ => rfl
          · refine ⟨hx, hfold _ hG, ?_⟩
            show ((G, H ++ [(⟨(cutF 32 (cutF 32 ((spl 10 s).getD (1 + (x : Int).toNat) [])).2).1, (cutF 32 (cutF 32 ((spl 10 s).getD (1 + (x : Int).toNat) [])).2).2⟩ : ValL)]) : List ValL × List ValL).1.length + ((G, H ++ [(⟨(cutF 32 (cutF 32 ((spl 10 s).getD (1 + (x : Int).toNat) [])).2).1, (cutF 32 (cutF 32 ((spl 10 s).getD (1 + (x : Int).toNat) [])).2).2⟩ : ValL)]) : List ValL × List ValL).2.length ≤ x + 1
            simp only [List.length_append, List.length_cons, List.length_nil]; omega
          · show (spl 10 s).tail.length - (x + 1) < (spl 10 s).tail.length - x
            omega
        · rename_i hh hk
          have hm := h
          have hG : stepB (G, H) ((spl 10 s).getD (1 + (x : Int).toNat) []) = (G, H) := stepB_4 _ _ hh hk hm
          refine Sat.back (x + 1, (G, H)) [] rfl ?_ ?_ ?_
          · (repeat' (first | exact AllP.nil | with_reducible refine AllP.cons ?_ ?_)) <;> first | exact rfl | exact trivial | exact Int.natCast_add_one _ | exact ⟨rfl, rfl, rfl, rfl⟩ | exact ⟨rfl, rfl, rfl, (by simp [EV.len, EV.sub])⟩ | exact purX | exact pur_val _ | exact fun _ _ => rfl
          · refine ⟨hx, hfold _ hG, ?_⟩
            show ((G, H) : List ValL × List ValL).1.length + ((G, H) : List ValL × List ValL).2.length ≤ x + 1
            simp only [List.length_append, List.length_cons, List.length_nil]; omega
          · show (spl 10 s).tail.length - (x + 1) < (spl 10 s).tail.length - x
            omega
      · obtain rfl : x = (spl 10 s).tail.length := by omega
        have hread : readP s = ⟨numV (cutP ((spl 10 s).getD (0 : Int).toNat [])), G, H⟩ := by
          have h2 := x2.get
          rw [List.take_length] at h2
          unfold readP
          rw [← spl_lines s, ← h2]
          cases hh : spl 10 s with
          | nil => exact absurd hh hne
          | cons y r => rfl
        have hp := print_spec (a := a) (b := b) (p := p) (q := q) ⟨numV (cutP ((spl 10 s).getD (0 : Int).toNat [])), G, H⟩
        have hpv1 := pur_val G
        have hpv2 := pur_val H
        clear x2
        repeat' (first
          | ((with_reducible apply Sat.cond_pf); exact rfl; dsimp only [V.EV.len, Option.getD]; omega)
          | ((with_reducible apply Sat.run (X := X64)); exact rfl; (first | exact True.intro | (exact phi) | skip))
          | ((with_reducible apply Sat.cond); exact rfl; all_goals intro h)
          | ((with_reducible apply Sat.callG1 (hp)); exact rfl; exact rfl; exact rfl; exact rfl; kernel_rfl; (intro hG; (exact cnvX)); exact rfl) | fail)
        · have hc := h
          have e : resP Lib.itoa readP s = (zeroS, 3) := by
            unfold resP
            rw [hread]
            exact if_pos ((res_cond _ _).1 hc)
          refine Sat.fin (Sat.end2 rfl rfl rfl rfl True.intro True.intro (by apply Conv.agg; exact cnvX) (.refl _ trivial) (.inl rfl) (fun _ h => h)) ((congrArg (fun r : SetL × Int => SV.tup [r.1.v, .int .i64 r.2]) e : _) : SV.tup [(resP Lib.itoa readP s).1.v, .int .i64 (resP Lib.itoa readP s).2] = SV.tup [zeroS.v, .int .i64 3])
        · have hc := h
          have e : resP Lib.itoa readP s = (⟨numV (cutP ((spl 10 s).getD (0 : Int).toNat [])), G, H⟩, 0) := by
            unfold resP
            rw [hread]
            exact if_neg fun q => by rw [(res_cond _ _).2 q] at hc; cases hc
          refine Sat.fin (Sat.end2 rfl rfl rfl rfl True.intro True.intro (by apply Conv.agg; exact cnvX) (.refl _ trivial) (.inl rfl) (fun _ h => h)) ((congrArg (fun r : SetL × Int => SV.tup [r.1.v, .int .i64 r.2]) e : _) : SV.tup [(resP Lib.itoa readP s).1.v, .int .i64 (resP Lib.itoa readP s).2] = SV.tup [SetL.v ⟨numV (cutP ((spl 10 s).getD (0 : Int).toNat [])), G, H⟩, .int .i64 0])
theorem parse_core2 (s : List UInt8) (hs : s.length ≤ 1000000) (hat : Fun Tryz.prog (Γs a b p q) 51 [.str (cutP ((spl 10 s).getD (0 : Int).toNat []))] (.tup [.int .i64 (numV (cutP ((spl 10 s).getD (0 : Int).toNat []))), errV])) :
    Fun Tryz.prog (Γs a b p q) 24 [.str s] (.tup [(resP Lib.itoa readP s).1.v, .int .i64 (resP Lib.itoa readP s).2]) := by
  have hsp := split_spec (a := a) (b := b) (p := p) (q := q) s hs
  have hcp := cutp_spec (Γs a b p q) ((spl 10 s).getD (0 : Int).toNat [])
  have hln := (spl_len 10 s).1
  have hne : spl 10 s ≠ [] := by rw [spl_lines]; exact linesB_ne s
  have hpos : 0 < (spl 10 s).length := List.length_pos_iff.2 hne
  refine Fun.mk 7 Tryz.func24 rfl Tryz.ntmps24 rfl rfl fun T w0 => ?_
  repeat' (first
    | ((with_reducible apply Sat.run (X := X64)); exact rfl; (first | exact True.intro | (exact phi) | skip))
    | ((with_reducible apply Sat.call (hsp)); exact rfl; exact rfl; kernel_rfl; (exact cnvX); exact rfl)
    | ((with_reducible apply Sat.callR (hcp)); exact rfl; exact rfl; exact rfl; kernel_rfl; (exact cnvX); exact rfl)
    | ((with_reducible apply Sat.call (hat)); exact rfl; exact rfl; kernel_rfl; (exact cnvX); exact rfl) | fail)
  · apply Sat.loop (α := Nat × (List ValL × List ValL)) (fun x => x.1 ≤ (spl 10 s).tail.length ∧ Hd (x.2 = ((spl 10 s).tail.take x.1).foldl stepB ([], [])) ∧ x.2.1.length + x.2.2.length ≤ x.1) (fun x => (spl 10 s).tail.length - x.1) (0, ([], [])) (fun x => [(34, .int .i64 (x.1 : Int))]) (fun x => [(1, .cells 32 [.int .i64 (numV (cutP ((spl 10 s).getD (0 : Int).toNat []))), .row 2 0 2 0 x.2.1.length, .row 3 0 2 0 x.2.2.length]), (2, .row 53 (valE x.2.1)), (3, .row 53 (valE x.2.2))]) [] [(2, none), (3, none)] 2
    · intro x; exact rfl
    · intro x; exact rfl
    · exact rfl
    · exact rfl
    · ((repeat' (first | exact AllP.nil | with_reducible refine AllP.cons ?_ ?_)) <;> first | exact rfl | exact trivial | exact Int.natCast_add_one _ | exact ⟨rfl, rfl⟩ | exact ⟨rfl, rfl, rfl⟩ | exact ⟨rfl, rfl, rfl, rfl⟩ | exact ⟨rfl, .inl rfl⟩ | exact ⟨rfl, .inr rfl⟩ | exact pur | (intro _; exact rfl) | (intro _; exact trivial) | (intro _; exact pur) | first | exact pur_val _ | (intro _ _; simp [pureL, pureS, pureE]; done))
    · exact ⟨Nat.zero_le _, ⟨rfl⟩, Nat.le_refl _⟩
    · rintro ⟨x, G, H⟩ ⟨x1, x2, x3⟩
      dsimp only at x1 x2 x3 ⊢
      have htl : (spl 10 s).tail.length = (spl 10 s).length - 1 := List.length_tail
      by_cases hx : x < (spl 10 s).tail.length
      · have hlen := spl_get 10 s (x + 1)
        have e1 : (spl 10 s).getD (1 + (x : Int).toNat) [] = (spl 10 s).getD (x + 1) [] := by rw [Int.toNat_natCast, Nat.add_comm]
        have e2 : (spl 10 s).getD (x + 1) [] = (spl 10 s).tail.getD x [] := by
          cases hh : spl 10 s with
          | nil => exact absurd hh hne
          | cons y r => rfl
        have hlt : x + 1 < (spl 10 s).length := by omega
        rw [← e1] at hlen
        have hc1 := cutS_spec (a := a) (b := b) (p := p) (q := q) ((spl 10 s).getD (1 + (x : Int).toNat) []) (by omega)
        have hfold : ∀ G', stepB (G, H) ((spl 10 s).getD (1 + (x : Int).toNat) []) = G' → Hd (G' = ((spl 10 s).tail.take (x + 1)).foldl stepB ([], [])) := fun G' hG => ⟨by rw [fold_at _ _ _ _ hx, ← x2.get, ← e2, ← e1, hG]⟩
        have hc2 := cutS_spec (a := a) (b := b) (p := p) (q := q) (cutF 32 ((spl 10 s).getD (1 + (x : Int).toNat) [])).2 (by rw [← (cut_F 32 _).2]; have := (cut_len ((spl 10 s).getD (1 + (x : Int).toNat) []) [32]).2; omega)
        repeat' (first
          | ((with_reducible apply Sat.cond_pt); exact rfl; dsimp only [V.EV.len, Option.getD]; omega)
          | ((with_reducible apply Sat.run (X := X64)); exact rfl; (first | exact True.intro | (exact phi) | skip))
          | ((with_reducible apply Sat.cond_p); exact rfl; all_goals intro h)
          | ((with_reducible apply Sat.callR (hc1)); exact rfl; exact rfl; exact rfl; kernel_rfl; (exact cnvX); exact rfl)
          | ((with_reducible apply Sat.callR (hc2)); exact rfl; exact rfl; exact rfl; kernel_rfl; (exact cnvX); exact rfl) | fail)
        all_goals try ((with_reducible refine AllP.cons ?_ ?_) <;> ((repeat' (first | exact AllP.nil | with_reducible refine AllP.cons ?_ ?_)) <;> first | exact rfl | exact inR_i64 (by omega) (by omega) | (dsimp only [V.EV.len, V.EV.sub]; omega) | done))
        · have hh := h
          have hG : stepB (G, H) ((spl 10 s).getD (1 + (x : Int).toNat) []) = (G ++ [(⟨(cutF 32 (cutF 32 ((spl 10 s).getD (1 + (x : Int).toNat) [])).2).1, (cutF 32 (cutF 32 ((spl 10 s).getD (1 + (x : Int).toNat) [])).2).2⟩ : ValL)], H) := stepB_1 _ _ hh
          refine Sat.reX (i := 5) (valE (G ++ [(⟨(cutF 32 (cutF 32 ((spl 10 s).getD (1 + (x : Int).toNat) [])).2).1, (cutF 32 (cutF 32 ((spl 10 s).getD (1 + (x : Int).toNat) [])).2).2⟩ : ValL)])) rfl rfl (by simp [EV.len, EV.sub]) rfl (fun y hy => app_row G (⟨(cutF 32 (cutF 32 ((spl 10 s).getD (1 + (x : Int).toNat) [])).2).1, (cutF 32 (cutF 32 ((spl 10 s).getD (1 + (x : Int).toNat) [])).2).2⟩ : ValL) y (by simpa [EV.len] using hy)) ?_
          refine Sat.back (x + 1, (G ++ [(⟨(cutF 32 (cutF 32 ((spl 10 s).getD (1 + (x : Int).toNat) [])).2).1, (cutF 32 (cutF 32 ((spl 10 s).getD (1 + (x : Int).toNat) [])).2).2⟩ : ValL)], H)) [(2, some 5)] rfl ?_ ?_ ?_
          · (repeat' (first | exact AllP.nil | with_reducible refine AllP.cons ?_ ?_)) <;> first | exact rfl | exact trivial | exact Int.natCast_add_one _ | exact ⟨rfl, rfl, rfl, rfl⟩ | exact ⟨rfl, rfl, rfl, (by simp [EV.len, EV.sub])⟩ | exact purX | exact pur_val _ | exact fun _ _ => rfl
          · refine ⟨hx, hfold _ hG, ?_⟩
            show ((G ++ [(⟨(cutF 32 (cutF 32 ((spl 10 s).getD (1 + (x : Int).toNat) [])).2).1, (cutF 32 (cutF 32 ((spl 10 s).getD (1 + (x : Int).toNat) [])).2).2⟩ : ValL)], H) : List ValL × List ValL).1.length + ((G ++ [(⟨(cutF 32 (cutF 32 ((spl 10 s).getD (1 + (x : Int).toNat) [])).2).1, (cutF 32 (cutF 32 ((spl 10 s).getD (1 + (x : Int).toNat) [])).2).2⟩ : ValL)], H) : List ValL × List ValL).2.length ≤ x + 1
            simp only [List.length_append, List.length_cons, List.length_nil]; omega
          · show (spl 10 s).tail.length - (x + 1) < (spl 10 s).tail.length - x
            omega
        · rename_i hh
          have hk := h
          have hG : stepB (G, H) ((spl 10 s).getD (1 + (x : Int).toNat) []) = (G, H ++ [val0]) := stepB_2 _ _ hh hk
          refine Sat.reX (i := 5) (valE (H ++ [v00])) rfl rfl (by simp [EV.len, EV.sub]) rfl (fun y hy => app_row H v00 y (by simpa [EV.len] using hy)) ?_
          refine Sat.back (x + 1, (G, H ++ [val0])) [(3, some 5)] rfl ?_ ?_ ?_
          · (repeat' (first | exact AllP.nil | with_reducible refine AllP.cons ?_ ?_)) <;> first | exact rfl | exact trivial | exact Int.natCast_add_one _ | exact ⟨rfl, rfl, rfl, rfl⟩ | exact ⟨rfl, rfl, rfl, (by simp [EV.len, EV.sub])⟩ | exact purX | exact pur_val _ | exact fun _ _ => rfl
          · refine ⟨hx, hfold _ hG, ?_⟩
            show ((G, H ++ [val0]) : List ValL × List ValL).1.length + ((G, H ++ [val0]) : List ValL × List ValL).2.length ≤ x + 1
            simp only [List.length_append, List.length_cons, List.length_nil]; omega
          · show (spl 10 s).tail.length - (x + 1) < (spl 10 s).tail.length - x
            omega
        · rename_i hh hk
          have hm := h
          have hG : stepB (G, H) ((spl 10 s).getD (1 + (x : Int).toNat) []) = (G, H ++ [(⟨(cutF 32 (cutF 32 ((spl 10 s).getD (1 + (x : Int).toNat) [])).2).1, (cutF 32 (cutF 32 ((spl 10 s).getD (1 + (x : Int).toNat) [])).2).2⟩ : ValL)]) := stepB_3 _ _ hh hk hm
          refine Sat.reX (i := 5) (valE (H ++ [(⟨(cutF 32 (cutF 32 ((spl 10 s).getD (1 + (x : Int).toNat) [])).2).1, (cutF 32 (cutF 32 ((spl 10 s).getD (1 + (x : Int).toNat) [])).2).2⟩ : ValL)])) rfl rfl (by simp [EV.len, EV.sub]) rfl (fun y hy => app_row H (⟨(cutF 32 (cutF 32 ((spl 10 s).getD (1 + (x : Int).toNat) [])).2).1, (cutF 32 (cutF 32 ((spl 10 s).getD (1 + (x : Int).toNat) [])).2).2⟩ : ValL) y (by simpa [EV.len] using hy)) ?_
          refine Sat.back (x + 1, (G, H ++ [(⟨(cutF 32 (cutF 32 ((spl 10 s).getD (1 + (x : Int).toNat) [])).2).1, (cutF 32 (cutF 32 ((spl 10 s).getD (1 + (x : Int).toNat) [])).2).2⟩ : ValL)])) [(3, some 5)] rfl ?_ ?_ ?_
          · (repeat' (first | exact AllP.nil | with_reducible refine AllP.cons ?_ ?_)) <;> first | exact rfl | exact trivial | exact Int.natCast_add_one _ | exact ⟨rfl, rfl, rfl, rfl⟩ | exact ⟨rfl, rfl, rfl, (by simp [EV.len, EV.sub])⟩ | exact purX | exact pur_val _ | exact fun _ _ => rfl
          · refine ⟨hx, hfold _ hG, ?_⟩
            show ((G, H ++ [(⟨(cutF 32 (cutF 32 ((spl 10 s).getD (1 + (x : Int).toNat) [])).2).1, (cutF 32 (cutF 32 ((spl 10 s).getD (1 + (x : Int).toNat) [])).2).2⟩ : ValL)]) : List ValL × List ValL).1.length + ((G, H ++ [(⟨(cutF 32 (cutF 32 ((spl 10 s).getD (1 + (x : Int).toNat) [])).2).1, (cutF 32 (cutF 32 ((spl 10 s).getD (1 + (x : Int).toNat) [])).2).2⟩ : ValL)]) : List ValL × List ValL).2.length ≤ x + 1
            simp only [List.length_append, List.length_cons, List.length_nil]; omega
          · show (spl 10 s).tail.length - (x + 1) < (spl 10 s).tail.length - x
            omega
        · rename_i hh hk
          have hm := h
          have hG : stepB (G, H) ((spl 10 s).getD (1 + (x : Int).toNat) []) = (G, H) := stepB_4 _ _ hh hk hm
          refine Sat.back (x + 1, (G, H)) [] rfl ?_ ?_ ?_
          · (repeat' (first | exact AllP.nil | with_reducible refine AllP.cons ?_ ?_)) <;> first | exact rfl | exact trivial | exact Int.natCast_add_one _ | exact ⟨rfl, rfl, rfl, rfl⟩ | exact ⟨rfl, rfl, rfl, (by simp [EV.len, EV.sub])⟩ | exact purX | exact pur_val _ | exact fun _ _ => rfl
          · refine ⟨hx, hfold _ hG, ?_⟩
            show ((G, H) : List ValL × List ValL).1.length + ((G, H) : List ValL × List ValL).2.length ≤ x + 1
            simp only [List.length_append, List.length_cons, List.length_nil]; omega
          · show (spl 10 s).tail.length - (x + 1) < (spl 10 s).tail.length - x
            omega
      · obtain rfl : x = (spl 10 s).tail.length := by omega
        have hread : readP s = ⟨numV (cutP ((spl 10 s).getD (0 : Int).toNat [])), G, H⟩ := by
          have h2 := x2.get
          rw [List.take_length] at h2
          unfold readP
          rw [← spl_lines s, ← h2]
          cases hh : spl 10 s with
          | nil => exact absurd hh hne
          | cons y r => rfl
        have hp := print_spec (a := a) (b := b) (p := p) (q := q) ⟨numV (cutP ((spl 10 s).getD (0 : Int).toNat [])), G, H⟩
        have hpv1 := pur_val G
        have hpv2 := pur_val H
        clear x2
        repeat' (first
          | ((with_reducible apply Sat.cond_pf); exact rfl; dsimp only [V.EV.len, Option.getD]; omega)
          | ((with_reducible apply Sat.run (X := X64)); exact rfl; (first | exact True.intro | (exact phi) | skip))
          | ((with_reducible apply Sat.cond); exact rfl; all_goals intro h)
          | ((with_reducible apply Sat.callG1 (hp)); exact rfl; exact rfl; exact rfl; exact rfl; kernel_rfl; (intro hG; (exact cnvX)); exact rfl) | fail)
        · have hc := h
          have e : resP Lib.itoa readP s = (zeroS, 3) := by
            unfold resP
            rw [hread]
            exact if_pos ((res_cond _ _).1 hc)
          refine Sat.fin (Sat.end2 rfl rfl rfl rfl True.intro True.intro (by apply Conv.agg; exact cnvX) (.refl _ trivial) (.inl rfl) (fun _ h => h)) ((congrArg (fun r : SetL × Int => SV.tup [r.1.v, .int .i64 r.2]) e : _) : SV.tup [(resP Lib.itoa readP s).1.v, .int .i64 (resP Lib.itoa readP s).2] = SV.tup [zeroS.v, .int .i64 3])
        · have hc := h
          have e : resP Lib.itoa readP s = (⟨numV (cutP ((spl 10 s).getD (0 : Int).toNat [])), G, H⟩, 0) := by
            unfold resP
            rw [hread]
            exact if_neg fun q => by rw [(res_cond _ _).2 q] at hc; cases hc
          refine Sat.fin (Sat.end2 rfl rfl rfl rfl True.intro True.intro (by apply Conv.agg; exact cnvX) (.refl _ trivial) (.inl rfl) (fun _ h => h)) ((congrArg (fun r : SetL × Int => SV.tup [r.1.v, .int .i64 r.2]) e : _) : SV.tup [(resP Lib.itoa readP s).1.v, .int .i64 (resP Lib.itoa readP s).2] = SV.tup [SetL.v ⟨numV (cutP ((spl 10 s).getD (0 : Int).toNat [])), G, H⟩, .int .i64 0])
theorem parse_spec (s : List UInt8) (hs : s.length ≤ 1000000) : Fun Tryz.prog (Γs a b p q) 24 [.str s] (.tup [(resP Lib.itoa readP s).1.v, .int .i64 (resP Lib.itoa readP s).2]) := by
  have hl : (cutP ((spl 10 s).getD (0 : Int).toNat [])).length ≤ 1000000 := Nat.le_trans (cutP_len _) (Nat.le_trans (spl_get 10 s _) hs)
  by_cases h : ∃ v, Lib.atoiAll (cutP ((spl 10 s).getD (0 : Int).toNat [])) = .ok v
  · obtain ⟨v, hv⟩ := h
    have h1 := atoi_ok (Γs a b p q) _ hl v hv (atoi_rng hv)
    have h2 : numV (cutP ((spl 10 s).getD (0 : Int).toNat [])) = v := by unfold numV; rw [hv]
    rw [← h2] at h1
    exact parse_core1 s hs h1
  · exact parse_core2 s hs (atoi_bad _ hl fun v hv => h ⟨v, hv⟩)
end
end Go.Proofs.YtpbgihhfcdggkaaGreatDoor
end
section
namespace Go.Proofs.YtpbgihhfcdggkaaGreatDoor
open Go.RowKit V
set_option maxRecDepth 100000
set_option maxHeartbeats 4000000
set_option linter.unusedSimpArgs false
set_option linter.unusedVariables false
attribute [local irreducible] V.Sat V.DSat V.SatP V.ASat V.AOp
theorem callT_ok : ∀ i, i < 8 → nmB (callT.getD i []) = true ∧ callT.getD i [] ∈ callT := by decide
theorem callT_inj : ∀ i, i < 8 → ∀ j, j < 8 → callT.getD i [] = callT.getD j [] → i = j := by decide
theorem textT_ok : ∀ i, i < 4 → txB (textT.getD i []) = true := by decide
theorem call_ok (n : Int) (h : 0 ≤ n) : nmB (callN n) = true ∧ callN n ∈ callT := by
  obtain ⟨h1, h2⟩ := tm n h 8 (by decide)
  exact callT_ok _ (by omega)
theorem call_inj (a b : Int) (ha : 0 ≤ a) (hb : 0 ≤ b) (h : callN a = callN b) : a % 8 = b % 8 := by
  obtain ⟨h1, h2⟩ := tm a ha 8 (by decide)
  obtain ⟨h3, h4⟩ := tm b hb 8 (by decide)
  have := callT_inj _ (by omega) _ (by omega) h
  rw [Int.tmod_eq_emod_of_nonneg ha] at *
  rw [Int.tmod_eq_emod_of_nonneg hb] at *
  omega
theorem val_ok (a b : Int) (ha : 0 ≤ a) (hb : 0 ≤ b) : rightV (valN a b) = true := by
  obtain ⟨h1, h2⟩ := tm b hb 4 (by decide)
  unfold rightV valN
  rw [(call_ok a ha).1, textT_ok _ (by omega)]
  rfl
theorem wrU_eq (n : Int) : wrU n = n % 256 := by simp [wrU, IntKind.wrap, IntKind.bits, IntKind.signed]
theorem to_rng (b d : Int) (hd : 0 ≤ d ∧ d < 256) : 0 ≤ toN b d ∧ toN b d < 256 := by
  unfold toN
  split
  · exact wrU_rng _
  · exact hd
theorem to_ne (b d : Int) (hb : 0 ≤ b ∧ b < 256) (hd : 0 ≤ d ∧ d < 256) : callN b ≠ callN (toN b d) := by
  intro h
  have h1 := call_inj _ _ hb.1 (to_rng b d hd).1 h
  unfold toN at h1
  rw [wrU_eq, wrU_eq, Int.tmod_eq_emod_of_nonneg (by omega)] at h1
  split at h1 <;> omega
theorem ruleN_ok (q : Quad) (h : QuadOk q) : rightR (ruleN q) = true := by
  obtain ⟨a, b, c, d⟩ := h
  unfold ruleN
  split
  · unfold rightR
    rw [if_pos rfl, (call_ok _ b.1).1, (call_ok _ (to_rng q.b q.d d).1).1, decide_eq_false (to_ne q.b q.d b d)]
    rfl
  · split
    · have h2 := val_ok q.b q.c b.1 c.1
      unfold rightV at h2
      rw [Bool.and_eq_true] at h2
      unfold rightR
      rw [if_neg (show ¬ (2 : Int) = 1 by decide), if_pos rfl]
      show (nmB (callN q.b) && (decide (([] : Nm) = []) && txB (valN q.b q.c).val)) = true
      rw [(call_ok _ b.1).1, h2.2]
      rfl
    · unfold rightR
      rw [if_neg (show ¬ (3 : Int) = 1 by decide), if_neg (show ¬ (3 : Int) = 2 by decide), if_pos rfl]
      show (nmB (callN q.b) && _) = true
      rw [(call_ok _ b.1).1]
      rfl
theorem ruleN_names (q : Quad) (h : QuadOk q) : (ruleN q).name ∈ callT ∧ ((ruleN q).kind = 1 → (ruleN q).to ∈ callT) := by
  obtain ⟨a, b, c, d⟩ := h
  have h1 := (call_ok _ b.1).2
  have h2 := (call_ok _ (to_rng q.b q.d d).1).2
  unfold ruleN
  split
  · exact ⟨h1, fun _ => h2⟩
  · split
    · exact ⟨h1, fun e => absurd e (show ¬ (2 : Int) = 1 by decide)⟩
    · exact ⟨h1, fun e => absurd e (show ¬ (3 : Int) = 1 by decide)⟩
@[reducible] def q00 : Quad := ⟨0, 0, 0, 0⟩
@[reducible] def quadE (L : List Quad) : EV := .g L.length 4 fun i => quadP (L.getD i q00)
def rulesN (L : List Quad) (n : Nat) : List RuleL := (L.take n).map ruleN
theorem rulesN_len (L : List Quad) (n : Nat) : (rulesN L n).length = min n L.length := by simp [rulesN]
theorem rulesN_at (L : List Quad) (n i : Nat) (h : i < min n L.length) : (rulesN L n).getD i r00 = ruleN (L.getD i q00) := by
  unfold rulesN
  rw [List.getD_eq_getElem?_getD, List.getD_eq_getElem?_getD, List.getElem?_map, List.getElem?_take, if_pos (by omega), List.getElem?_eq_getElem (by omega)]
  rfl
theorem quad_at (L : List Quad) (h : ∀ q ∈ L, QuadOk q) (i : Nat) : QuadOk (L.getD i q00) := by
  rw [List.getD_eq_getElem?_getD]
  cases hi : L[i]? with
  | none => exact ⟨by decide, by decide, by decide, by decide⟩
  | some q => exact h q (List.mem_of_getElem? hi)
theorem app_q (L : List Quad) (x : Nat) : ∀ i, i < x + 1 → ruleP (ruleN (L.getD i q00)) = if i < x then ruleP (ruleN (L.getD i q00)) else nthL [ruleP (ruleN (L.getD (x : Int).toNat q00))] (0 + (i - x)) := by
  intro i hi
  split
  · rfl
  · obtain rfl : i = x := by omega
    rw [Nat.sub_self, Int.toNat_natCast]
    rfl
theorem pur_q (L : List Quad) (n : Nat) : pureE (.g n 4 fun i => ruleP (ruleN (L.getD i q00))) := fun _ _ => by simp [pureL, pureS, pureE]
theorem rules_conv {M : Mem} {s : SV} (L : List Quad) (n x : Nat) (hx : x = min n L.length) (hs : Conv M s (.ro (.g x 4 fun i => ruleP (ruleN (L.getD i q00))))) : Conv M s (.ro (ruleE (rulesN L n))) := by
  have hl := rulesN_len L n
  refine .gx _ _ _ _ _ (.eq _ _ _ hs (by rw [hl, hx])) fun i hi => ?_
  rw [rulesN_at L n i (by omega)]
theorem rules_spec (L : List Quad) (hL : ∀ q ∈ L, QuadOk q) (n : Nat) (hn : n ≤ 1000) : Fun Tryz.prog [] 13 [.ro (quadE L), .int .i64 (n : Int)] (.ro (ruleE (rulesN L n))) := by
  refine Fun.mk 6 Tryz.func13 rfl Tryz.ntmps13 rfl rfl fun T w0 => ?_
  have hpl : pureE (quadE L) := fun _ _ => by simp [pureL, pureS, pureE]
  repeat' (first
    | ((with_reducible apply Sat.run (X := X64)); exact rfl; (first | exact True.intro | (exact phi) | skip)) | fail)
  refine Sat.kill [7] rfl ?_
  apply Sat.loop (α := Nat) (fun x => x ≤ min n L.length) (fun x => L.length - x) 0 (fun x => [(5, .row 0 0 4 0 x), (6, .int .i64 (x : Int))]) (fun x => [(0, .row 28 (.g x 4 fun i => ruleP (ruleN (L.getD i q00))))]) [] [] 0
  · intro x; exact rfl
  · intro x; exact rfl
  · exact rfl
  · exact rfl
  · ((repeat' (first | exact AllP.nil | with_reducible refine AllP.cons ?_ ?_)) <;> first | exact rfl | exact trivial | exact Int.natCast_add_one _ | exact ⟨rfl, rfl⟩ | exact ⟨rfl, rfl, rfl⟩ | exact ⟨rfl, rfl, rfl, rfl⟩ | exact ⟨rfl, .inl rfl⟩ | exact ⟨rfl, .inr rfl⟩ | exact pur | (intro _; exact rfl) | (intro _; exact trivial) | (intro _; exact pur) | first | exact hpl | exact pur_q _ _ | (intro i hi; exact absurd hi (Nat.not_lt_zero _)) | (intro _ _; simp [pureL, pureS, pureE]; done))
  · exact Nat.zero_le _
  · intro x hx0
    by_cases hx : x < n ∧ x < L.length
    · have hc : (bif decide ((x : Int) < ((EV.g L.length 4 fun i => quadP (L.getD i q00)).len : Int)) then decide ((x : Int) < (n : Int)) else false) = true := by
        rw [decide_eq_true (show (x : Int) < ((EV.g L.length 4 fun i => quadP (L.getD i q00)).len : Int) by show (x : Int) < (L.length : Int); omega), decide_eq_true (show (x : Int) < (n : Int) by omega)]
        rfl
      have h1 := rule_spec (L.getD (x : Int).toNat q00) (quad_at L hL _)
      repeat' (first
        | (rw [hc])
        | ((with_reducible apply Sat.run (X := X64)); exact rfl; (first | exact True.intro | (exact phi) | skip))
        | ((with_reducible apply Sat.cond_t); exact rfl)
        | ((with_reducible apply Sat.callR (h1)); exact rfl; exact rfl; exact rfl; kernel_rfl; (exact cnvX); exact rfl) | fail)
      refine Sat.reX (i := 2) (.g (x + 1) 4 fun i => ruleP (ruleN (L.getD i q00))) rfl rfl (Nat.le_refl _) rfl (fun i hi => app_q L x i hi) ?_
      refine Sat.back (x + 1) [(0, some 2)] rfl ?_ (by omega) (by omega)
      ((repeat' (first | exact AllP.nil | with_reducible refine AllP.cons ?_ ?_)) <;> first | exact rfl | exact trivial | exact Int.natCast_add_one _ | exact ⟨rfl, rfl⟩ | exact ⟨rfl, rfl, rfl⟩ | exact ⟨rfl, rfl, rfl, rfl⟩ | exact ⟨rfl, .inl rfl⟩ | exact ⟨rfl, .inr rfl⟩ | exact pur | (intro _; exact rfl) | (intro _; exact trivial) | (intro _; exact pur) | first | exact hpl | exact pur_q _ _ | (intro _ _; simp [pureL, pureS, pureE]; done))
    · have hc : (bif decide ((x : Int) < ((EV.g L.length 4 fun i => quadP (L.getD i q00)).len : Int)) then decide ((x : Int) < (n : Int)) else false) = false := by
        by_cases q : x < L.length
        · rw [decide_eq_true (show (x : Int) < ((EV.g L.length 4 fun i => quadP (L.getD i q00)).len : Int) by show (x : Int) < (L.length : Int); omega), decide_eq_false (show ¬ (x : Int) < (n : Int) by omega)]
          rfl
        · rw [decide_eq_false (show ¬ (x : Int) < ((EV.g L.length 4 fun i => quadP (L.getD i q00)).len : Int) by show ¬ (x : Int) < (L.length : Int); omega)]
          rfl
      repeat' (first
        | (rw [hc])
        | ((with_reducible apply Sat.run (X := X64)); exact rfl; (first | exact True.intro | (exact phi) | skip))
        | ((with_reducible apply Sat.cond_f); exact rfl) | fail)
      refine Sat.fin (Sat.end1 rfl rfl rfl True.intro (rules_conv L n x (by omega) (.all 0 0 4 x _ rfl rfl rfl (pur_q _ _))) (.inl rfl) (fun _ h => h)) rfl
end Go.Proofs.YtpbgihhfcdggkaaGreatDoor
end
section
namespace Go.Proofs.YtpbgihhfcdggkaaGreatDoor
open Go.RowKit
set_option maxRecDepth 100000
set_option maxHeartbeats 1000000
set_option linter.unusedSimpArgs false
theorem idle_ok : V.IdleOk Tryz.prog 81 := by
  intro b w
  refine callsD_of_wpS Tryz.func81 rfl fun c₀ cs hu => ?_
  apply wpS_seq
  apply wpS_region
  simp [wpOpsS, go_sem, recoverD, hu, Tryz.ntmps81, Exit.thenS]
  apply wpS_seq
  apply wpS_region
  simp [wpOpsS, go_sem, recoverD, hu, Tryz.ntmps81, Exit.thenS]
  refine wpS_cond (t := false) (by simp [Act.eval, Array.replicate]) ?_
  simp only [Bool.false_eq_true, if_false]
  refine wpS_of_wp (wp_skip ?_)
  cases c₀
  simp_all [bodyPostS, results, Tryz.results81]
theorem catch_ok : V.CatchOk Tryz.prog 81 131 (.bool false) := by
  intro b w x hc hx hz
  refine callsD_of_wpS Tryz.func81 rfl fun c₀ cs hu => ?_
  apply wpS_seq
  apply wpS_region
  simp [wpOpsS, go_sem, recoverD, hu, Tryz.ntmps81, Exit.thenS]
  apply wpS_seq
  apply wpS_region
  simp [wpOpsS, go_sem, recoverD, hu, Tryz.ntmps81, Exit.thenS]
  refine wpS_cond (t := true) (by simp [Act.eval, Array.replicate]) ?_
  simp only [if_true]
  apply wpS_seq
  apply wpS_seq
  apply wpS_region
  have hta : (Instr.typeAssert (.iface 131 (.agg #[])) 20 131 true).run Tryz.prog w = .ok (.tuple #[.agg #[], .bool true]) w := by
    simp [Instr.typeAssert, run_underlying Tryz.underlying131]
  simp [wpOpsS, go_sem, recoverD, hu, Tryz.ntmps81, Exit.thenS, hta]
  apply wpS_seq
  apply wpS_region
  simp [wpOpsS, go_sem, recoverD, hu, Tryz.ntmps81, Exit.thenS]
  refine wpS_cond (t := false) (by simp [Act.eval, Array.replicate]) ?_
  simp only [Bool.false_eq_true, if_false]
  refine wpS_of_wp (wp_skip ?_)
  have hlt : b < w.heap.size := block_lt_of_cell hc
  have hc2 : (w.alloc (.cells #[] 131)).cell? ⟨b, 0, none⟩ = some x := by
    rw [World.cell?_of_block (Below.heap_alloc w _ b hlt)]; exact hc
  have hz2 : (w.alloc (.cells #[] 131)).frozen? ⟨b, 0, none⟩ = false := by
    rw [World.frozen?_of_block (Below.heap_alloc w _ b hlt)]; exact hz
  refine wpS_region ?_
  simp [wpOpsS, go_sem, hc2, hz2, bodyPostS, results, Tryz.results81]
  exact ⟨_, (Below.refl _ _).alloc (Nat.le_refl _) _, rfl⟩
end Go.Proofs.YtpbgihhfcdggkaaGreatDoor
end
section
namespace Go.Proofs.YtpbgihhfcdggkaaGreatDoor.V
open Go.RowKit
set_option linter.unusedVariables false
section
variable {P : Program} {Γ : Glob} {f : FuncId} {fn : Func} {c : Code} {N : Nat} {dom : List Nat} {args : List SV} {M0 M1 : Mem} {res : SV}
theorem MF.mkD {F : Tr} {ids : List Nat} (dep : Nat) (hf : P.funcs[f]? = some fn) (hb : fn.body = some c) (hN : fn.ntmps = N) (hle : Nat.ble args.length N = true) (hF : argT 0 args (Tr.mk dep) = some F) (hids : supB dom ids = true)
    (h : ∀ T w E, Sat (cxM P Γ N dom M0 T w E) (bodyPostD P fn (fun e w' => ∃ v E1, e = .returned v ∧ MRet M0 res M1 T w E E1 v w')) (.code c F M0 ids [])) : MF P Γ f dom args M0 res M1 := by
  intro T w E vs hpre
  obtain ⟨h1, h2⟩ := hpre.st (P := P) (fn := fn) dep hN hle hF hids
  exact calls_of_wp_defers hf hb (h T w E _ E _ w h1 h2)
theorem mret_gen {C : Ctx} {T : Nat → Prop} {w : World} {E : Env} {F : Tr} {M : Mem} {U : Nat → Prop} {E1 : Env} {a : Act} {w' : World} {v : Value} (hp : (⟨E, .e, fun _ => undef, []⟩ : Hold) ∈ C.hold) (hW : C.W0 = w) (hS : C.S = mine M0 E) (hT0 : C.T0 = T) (hM : subM M1 M) (hst : St C F M U E1 a w') (hr : Rep E1 (trk T M E1) w' res v) : MRet M0 res M1 T w E E1 v w' := by
  subst hW hT0
  have hle := subM_le hM
  have hT : ∀ b, trk C.T0 M1 E1 b → trk C.T0 M E1 b := fun b hb => by
    rcases hb with ⟨i, B, h1, h2⟩ | h0
    · exact .inl ⟨i, B, hle i B h1, h2⟩
    · exact .inr h0
  refine ⟨fun i x hi => (hst.pin _ hp i x hi).2, (hst.mem.le hle).monoT hT, hr.mono (fun _ _ h => h) (fun b _ hb => hT b hb) (Chg.refl _ w'), fun i b hf hE => ?_, hS ▸ hst.kp.chg, hst.kp.os, hst.kp.tape, hst.kp.output⟩
  cases hq : find M1 i with
  | none => rw [hq] at hf; cases hf
  | some B => exact hS ▸ hst.own i b (by rw [hle i B hq]; rfl) hE
variable {T : Nat → Prop} {w : World} {E : Env} {F : Tr} {M M' : Mem} {ids : List Nat} {e : Ex} {pins : List Nat} {E2 : Env} {b i : Nat}
theorem Sat.fendD1 {r : ResultVar} {φ : List Prop} {s : SV} (hidle : IdleOk P f) (hcl : callable P f = true) (hr : fn.results = #[r]) (h1 : resV P F M r = some (φ, s)) (hφ : AllP φ) (hres : s = res) (hM : subM M1 M) (he : e = .ret ∨ e = .normal) :
    Sat ⟨P, w, mine M0 E, T, Γ, N, pins, ⟨pinE pins.elem E2, .n .e (some (.ptr i 0)) .e, fun _ => .pointer (some ⟨b, 0, none⟩), [⟨.fn (.func f) #[.pointer (some ⟨b, 0, none⟩)], #[]⟩]⟩ :: ⟨E, .e, fun _ => undef, []⟩ :: [], false⟩
      (bodyPostD P fn (fun e w' => ∃ v E1, e = .returned v ∧ MRet M0 res M1 T w E E1 v w')) (.ext e F M ids []) := by
  intro U E1 a1 w1 hsup hst
  obtain ⟨v, q1, q2⟩ := resV_ok hst h1 hφ
  have hl : Leaves P fn a1.tmps (fun e w' => ∃ v E1, e = .returned v ∧ MRet M0 res M1 T w E E1 v w') a1.defers .returning w1 := by
    rw [show a1.defers = [⟨.fn (.func f) #[.pointer (some ⟨b, 0, none⟩)], #[]⟩] from hst.defers]
    refine leaves_cons (f := f) (args := #[.pointer (some ⟨b, 0, none⟩)]) (by simp) ?_ ((hidle b w1).mono ?_)
    · simp [invoke, run_callFunc_go hcl]
    · rintro e' u' w' ⟨rfl, rfl, rfl⟩
      refine ⟨v, ?_, v, E1, rfl, mret_gen (List.mem_cons_of_mem _ (List.mem_cons_self ..)) rfl rfl rfl hM hst (hres ▸ q1)⟩
      unfold results
      rw [hr]
      exact mapM_run1 q2
  rcases he with rfl | rfl <;> exact hl
theorem SatP.fendD1 {r : ResultVar} {φ : List Prop} {s : SV} {t ty : TypeId} {b0 b1 : Bool} (hcatch : CatchOk P f t (.bool b1)) (hcl : callable P f = true) (hr : fn.results = #[r])
    (hf : find M i = some (.cells ty [.bool b0])) (hM' : upd M i (.cells ty [.bool b1]) = some M') (h1 : resV P F M' r = some (φ, s)) (hφ : AllP φ) (hres : s = res) (hM : subM M1 M') :
    SatP ⟨P, w, mine M0 E, T, Γ, N, pins, ⟨pinE pins.elem E2, .n .e (some (.ptr i 0)) .e, fun _ => .pointer (some ⟨b, 0, none⟩), [⟨.fn (.func f) #[.pointer (some ⟨b, 0, none⟩)], #[]⟩]⟩ :: ⟨E, .e, fun _ => undef, []⟩ :: [], false⟩
      (bodyPostD P fn (fun e w' => ∃ v E1, e = .returned v ∧ MRet M0 res M1 T w E E1 v w')) F M ids t := by
  intro U E1 a1 w1 hsup hst
  have hE : E1 i = some (some b) := by
    have hh := hst.held _ (List.mem_cons_self ..) 0 (.ptr i 0) rfl
    have hq := hst.pin _ (List.mem_cons_self ..)
    cases hh with
    | ptr _ _ b' hb => exact (hq i _ hb).2
  obtain ⟨hlt, cs, hb, hI⟩ := hst.mem.at hf hE
  obtain ⟨c, rfl, hc⟩ : ∃ c, cs = [c] ∧ c.oneCell' = true := by
    cases hI with
    | one _ c _ cs h hr hl => cases hl; exact ⟨c, rfl, hr.oneCell h⟩
  have key : ∀ w2, Below w1.heap.size w1 w2 → ∃ v, (results fn a1.tmps).run P (w2.setCell ⟨b, 0, none⟩ (.bool b1)) = .ok v (w2.setCell ⟨b, 0, none⟩ (.bool b1)) ∧ ∃ v' E', Ending.returned v = .returned v' ∧ MRet M0 res M1 T w E E' v' (w2.setCell ⟨b, 0, none⟩ (.bool b1)) := fun w2 hb1 => by
    have hst1 := hst.below hb1
    have hbk : w2.heap[b]? = some (.cells #[c] ty (0, 0)) := (hb1.block b hlt).trans hb
    have hset := setCell_eq_setRow w2 b 0 #[c] ty (0, 0) (.bool b1) hbk
    have hst2 := hst1.upd_ (cs := [c]) (cs' := [.bool b1]) hM' hf hE hbk rfl ⟨[.bool b1], setRow_heap w2 b _ _ _ _ hbk, .one _ _ _ _ rfl (.bool _) .nil⟩
    obtain ⟨v, q1, q2⟩ := resV_ok hst2 h1 hφ
    rw [hset]
    refine ⟨v, ?_, v, E1, rfl, mret_gen (List.mem_cons_of_mem _ (List.mem_cons_self ..)) rfl rfl rfl hM hst2 (hres ▸ q1)⟩
    unfold results
    rw [hr]
    exact mapM_run1 q2
  show Leaves P fn a1.tmps _ a1.defers (.panicking [{ v := .iface t (.agg #[]), recovered := false }]) w1
  rw [show a1.defers = [⟨.fn (.func f) #[.pointer (some ⟨b, 0, none⟩)], #[]⟩] from hst.defers]
  refine leaves_cons (f := f) (args := #[.pointer (some ⟨b, 0, none⟩)]) (by simp) ?_ ((hcatch b w1 c ?_ hc ?_).mono ?_)
  · simp [invoke, run_callFunc_go hcl]
  · simp [World.cell?, hb]
  · simp [World.frozen?, hb]
  · rintro e' u' w' ⟨rfl, rfl, w2, hb1, rfl⟩
    obtain ⟨v, q1, q2⟩ := key w2 hb1
    exact ⟨v, q1, q2⟩
end
end Go.Proofs.YtpbgihhfcdggkaaGreatDoor.V
end
section
namespace Go.Proofs.YtpbgihhfcdggkaaGreatDoor
open Go.RowKit V
set_option maxRecDepth 100000
set_option maxHeartbeats 4000000
set_option linter.unusedSimpArgs false
set_option linter.unusedVariables false
attribute [local irreducible] V.Sat V.DSat V.SatP V.ASat V.AOp
theorem mdo1 (v : Value) (w : World) : (method (Tryz.prog.types.size + Made.depth) 127 v "inlay/settings.do").run Tryz.prog w = .ok (146, v) w := by kernel_rfl
theorem mdo2 (v : Value) (w : World) : (method (Tryz.prog.types.size + Made.depth) 128 v "inlay/settings.do").run Tryz.prog w = .ok (159, v) w := by kernel_rfl
theorem mdo3 (v : Value) (w : World) : (method (Tryz.prog.types.size + Made.depth) 129 v "inlay/settings.do").run Tryz.prog w = .ok (163, v) w := by kernel_rfl
theorem mundo1 (v : Value) (w : World) : (method (Tryz.prog.types.size + Made.depth) 127 v "inlay/settings.undo").run Tryz.prog w = .ok (148, v) w := by kernel_rfl
theorem mundo2 (v : Value) (w : World) : (method (Tryz.prog.types.size + Made.depth) 128 v "inlay/settings.undo").run Tryz.prog w = .ok (161, v) w := by kernel_rfl
theorem mundo3 (v : Value) (w : World) : (method (Tryz.prog.types.size + Made.depth) 129 v "inlay/settings.undo").run Tryz.prog w = .ok (165, v) w := by kernel_rfl
def ids4 : List Nat := 4 :: 5 :: 6 :: 7 :: 8 :: 9 :: 10 :: 11 :: 12 :: 13 :: 14 :: 15 :: 16 :: 17 :: 18 :: 19 :: 20 :: 21 :: 22 :: 23 :: 24 :: 25 :: 26 :: 27 :: 28 :: 29 :: 30 :: 31 :: 32 :: 33 :: 34 :: 35 :: 36 :: 37 :: 38 :: 39 :: 40 :: []
structure Way (f : SetL → RuleL → Option SetL) (s : SetL) (L : List RuleL) (x : Nat) (t : SetL) : Prop where
  le : x ≤ L.length
  run : runL f s (L.take x) = some t
  rise : Rising t.vals
  nv : t.vals.length ≤ 16 + x
  nk : t.kept.length ≤ 16 + x
theorem run_take (f : SetL → RuleL → Option SetL) (s t : SetL) (L : List RuleL) (x : Nat) (hx : x < L.length) (h : runL f s (L.take x) = some t) : runL f s (L.take (x + 1)) = f t (L.getD x r00) := by
  have e : L.take (x + 1) = L.take x ++ [L.getD x r00] := by
    rw [List.take_add_one, List.getD_eq_getElem?_getD, List.getElem?_eq_getElem hx]
    rfl
  rw [e, runL_app, h]
  dsimp only
  rw [runL]
  cases f t (L.getD x r00) <;> rfl
theorem run_none (f : SetL → RuleL → Option SetL) (s t : SetL) (L : List RuleL) (x : Nat) (hx : x < L.length) (h : runL f s (L.take x) = some t) (hn : f t (L.getD x r00) = none) : runL f s L = none := by
  have e : L = L.take x ++ (L.getD x r00 :: L.drop (x + 1)) := by
    rw [List.getD_eq_getElem?_getD, List.getElem?_eq_getElem hx]
    show L = L.take x ++ L[x] :: L.drop (x + 1)
    rw [List.getElem_cons_drop, List.take_append_drop]
  rw [e, runL_app, h]
  dsimp only
  rw [runL, hn]
theorem mov_way {l l' : List ValL} (h : Rising l) (a b : Nm) (hm : movV l a b = some l') : Rising l' ∧ l'.length ≤ l.length + 1 := by
  unfold movV at hm
  split at hm
  · rename_i q
    cases hm
    refine ⟨rising_ins (rising_del h a) _ (by rw [hasV_del, q.2]; rfl), ?_⟩
    rw [insV_len]
    exact Nat.succ_le_succ (List.length_filter_le ..)
  · cases hm
theorem way_do {s t t' : SetL} {L : List RuleL} {x : Nat} (h : Way doS s L x t) (hx : x < L.length) (hd : doS t (L.getD x r00) = some t') : Way doS s L (x + 1) t' := by
  obtain ⟨l1, l2, _⟩ := doS_len (L.getD x r00) hd
  have := h.nv
  have := h.nk
  refine ⟨hx, (run_take doS s t L x hx h.run).trans hd, ?_, by omega, by omega⟩
  unfold doS at hd
  split at hd
  · obtain ⟨l, h1, rfl⟩ := Option.map_eq_some_iff.1 hd
    exact (mov_way h.rise _ _ h1).1
  · split at hd
    · cases hd
      exact rising_ins (rising_del h.rise _) _ (del_no _ _)
    · cases hd
      exact rising_del h.rise _
theorem pop_len {k : List ValL} {n : Nm} {p : ValL × List ValL} (h : popV k n = some p) : p.2.length ≤ k.length := by
  unfold popV at h
  split at h
  · cases h
  · split at h
    · cases h
      rw [List.length_dropLast]
      omega
    · cases h
theorem way_undo {s t t' : SetL} {L : List RuleL} {x : Nat} (h : Way undoS s L x t) (hx : x < L.length) (hd : undoS t (L.getD x r00) = some t') : Way undoS s L (x + 1) t' := by
  have hnv := h.nv
  have hnk := h.nk
  have hr := undo_rise h.rise _ hd
  have hl : t'.vals.length ≤ t.vals.length + 1 ∧ t'.kept.length ≤ t.kept.length := by
    unfold undoS at hd
    split at hd
    · obtain ⟨l, h1, rfl⟩ := Option.map_eq_some_iff.1 hd
      exact ⟨(mov_way h.rise _ _ h1).2, Nat.le_refl _⟩
    · split at hd
      · obtain ⟨p, h1, rfl⟩ := Option.map_eq_some_iff.1 hd
        refine ⟨?_, pop_len h1⟩
        have hdl : (delV t.vals (L.getD x r00).name).length ≤ t.vals.length := List.length_filter_le ..
        show (putV (delV t.vals (L.getD x r00).name) p.1).length ≤ _
        unfold putV
        split
        · omega
        · rw [insV_len]; omega
      · cases hd
  exact ⟨hx, (run_take undoS s t L x hx h.run).trans hd, hr, by omega, by omega⟩
@[reducible] def runM (ver : Int) (s : SetL) (L : List RuleL) : Mem := [(0, stC ver 1 s.vals.length 2 s.kept.length), (1, .row 53 (valE s.vals)), (2, .row 53 (valE s.kept)), (3, .row 111 (actE L))]
@[reducible] def runA (name : String) (L : List RuleL) : List SV := [.ptr 0 0, .row 3 0 1 0 L.length, .val (.func (.methodOf 111 name) #[] #[])]
theorem last_of (K : List ValL) (m : Nat) (h : K.length = m + 1) : K.getLast? = some (K.getD m v00) ∧ K.dropLast.length = m ∧ ∀ i, i < m → K.dropLast.getD i v00 = K.getD i v00 := by
  refine ⟨?_, by rw [List.length_dropLast, h]; rfl, fun i hi => ?_⟩
  · rw [List.getLast?_eq_getElem?, h, Nat.add_sub_cancel, List.getD_eq_getElem?_getD, List.getElem?_eq_getElem (by omega)]
    rfl
  · rw [List.getD_eq_getElem?_getD, List.getD_eq_getElem?_getD, List.getElem?_dropLast, if_pos (by omega)]
theorem run_do_yes (ver : Int) (s t : SetL) (L : List RuleL) (hs : Way doS s L 0 s) (hL : L.length ≤ 8) (hall : ∀ i, i < L.length → RuleOk (L.getD i r00)) (hrun : runL doS s L = some t) : MF Tryz.prog [] 65 [0, 1, 2, 3] (runA "inlay/settings.do" L) (runM ver s L) (.bool true) [(0, stC ver 50 t.vals.length 51 t.kept.length), (50, .row 53 (valE t.vals)), (51, .row 53 (valE t.kept)), (3, .row 111 (actE L))] := by
  refine MF.mkD (ids := ids4) 6 Tryz.func65 rfl Tryz.ntmps65 rfl rfl rfl fun T w0 E => ?_
  repeat' (first
    | ((with_reducible apply Sat.defer []); exact rfl; exact rfl; exact rfl; exact rfl; exact rfl; intro Ed bd)
    | ((with_reducible apply Sat.run (X := X64)); exact rfl; (first | exact True.intro | (exact phi) | skip)) | fail)
  apply Sat.loop (α := Nat × SetL) (fun x => Way doS s L x.1 x.2) (fun x => L.length - x.1) (0, s) (fun x => [(12, .int .i64 (x.1 : Int))]) (fun x => [(0, stC ver 50 x.2.vals.length 51 x.2.kept.length), (50, .row 53 (valE x.2.vals)), (51, .row 53 (valE x.2.kept))]) [1, 2] [(50, some 1), (51, some 2)] 0
  · intro x; exact rfl
  · intro x; exact rfl
  · exact rfl
  · exact rfl
  · ((repeat' (first | exact AllP.nil | with_reducible refine AllP.cons ?_ ?_)) <;> first | exact rfl | exact trivial | exact Int.natCast_add_one _ | exact ⟨rfl, rfl⟩ | exact ⟨rfl, rfl, rfl⟩ | exact ⟨rfl, rfl, rfl, rfl⟩ | exact ⟨rfl, .inl rfl⟩ | exact ⟨rfl, .inr rfl⟩ | exact pur | (intro _; exact rfl) | (intro _; exact trivial) | (intro _; exact pur) | (intro _ _; exact rfl) | exact pur_val _ | exact pur_act _ _)
  · exact hs
  rintro ⟨x, u⟩ hw
  dsimp only at hw
  by_cases hx : x < L.length
  · have hr := hall x hx
    have hnv := hw.nv
    have hnk := hw.nk
    repeat' (first
      | ((with_reducible apply Sat.run (X := X64)); exact rfl; (first | exact True.intro | (exact phi) | skip))
      | ((with_reducible apply Sat.cond_pt); exact rfl; (try dsimp only [V.EV.sub, V.EV.len]); first | assumption | omega) | fail)
    rw [show L.getD (0 + (((x, u).fst : Nat) : Int).toNat) r00 = L.getD x r00 by rw [Nat.zero_add, Int.toNat_natCast]]
    rcases hr.kind with k1 | k1 | k1
    · have hk : tidK (L.getD x r00).kind = 127 := by unfold tidK; rw [if_pos k1]
      by_cases hc : hasV u.vals (L.getD x r00).name = true ∧ hasV u.vals (L.getD x r00).to = false
      · have hd : doS u (L.getD x r00) = some ⟨u.version, movL u.vals (L.getD x r00).name (L.getD x r00).to, u.kept⟩ := by unfold doS movV; rw [if_pos k1, if_pos hc]; rfl
        refine Sat.mfM (rendo_yes ver u.vals u.kept u.kept.length (L.getD x r00) hw.rise (by omega) hc.1 hc.2 (hr.to k1).1) rfl rfl ⟨_, Tryz.underlying111⟩ (fun v w => by rw [hk]; exact mdo1 v w) (by kernel_rfl) rfl rfl rfl (by (repeat' (first | exact AllP.nil | with_reducible refine AllP.cons ?_ ?_)) <;> (first | exact rfl | exact True.intro | exact pur_val _ | exact purX)) rfl ?_
        repeat' (first
          | ((with_reducible apply Sat.run (X := X64)); exact rfl; (first | exact True.intro | (exact phi) | skip)) | fail)
        refine Sat.back (x + 1, ⟨u.version, movL u.vals (L.getD x r00).name (L.getD x r00).to, u.kept⟩) [(50, some 5)] rfl ?_ (way_do hw hx hd) (by show L.length - (x + 1) < L.length - x; omega)
        ((repeat' (first | exact AllP.nil | with_reducible refine AllP.cons ?_ ?_)) <;> first | exact rfl | exact trivial | exact Int.natCast_add_one _ | exact ⟨rfl, rfl⟩ | exact ⟨rfl, rfl, rfl⟩ | exact ⟨rfl, rfl, rfl, rfl⟩ | exact ⟨rfl, .inl rfl⟩ | exact ⟨rfl, .inr rfl⟩ | exact pur | (intro _; exact rfl) | (intro _; exact trivial) | (intro _; exact pur) | (intro _ _; exact rfl) | exact pur_val _ | exact pur_act _ _ | exact ⟨rfl, rfl, rfl, hl2.symm⟩ | exact ⟨rfl, rfl, rfl, by simp [EV.len, EV.sub]; done⟩ | (refine ⟨rfl, rfl, rfl, ?_⟩; simp [EV.len, EV.sub]; omega))
      · have hd : doS u (L.getD x r00) = none := by unfold doS movV; rw [if_pos k1, if_neg hc]; rfl
        exfalso
        rw [run_none doS s u L x hx hw.run hd] at hrun
        cases hrun
    · have hk : tidK (L.getD x r00).kind = 128 := by unfold tidK; rw [if_neg (by omega), if_pos k1]
      have hd : doS u (L.getD x r00) = some ⟨u.version, insV (delV u.vals (L.getD x r00).name) ⟨(L.getD x r00).name, (L.getD x r00).val⟩, u.kept ++ [getV u.vals (L.getD x r00).name]⟩ := by unfold doS; rw [if_neg (by omega), if_pos k1]
      refine Sat.mfM (pdo_mf ver u.vals u.kept (L.getD x r00) hw.rise (by omega) (by omega) hr.name) rfl rfl ⟨_, Tryz.underlying111⟩ (fun v w => by rw [hk]; exact mdo2 v w) (by kernel_rfl) rfl rfl rfl (by (repeat' (first | exact AllP.nil | with_reducible refine AllP.cons ?_ ?_)) <;> (first | exact rfl | exact True.intro | exact pur_val _ | exact purX)) rfl ?_
      repeat' (first
        | ((with_reducible apply Sat.run (X := X64)); exact rfl; (first | exact True.intro | (exact phi) | skip)) | fail)
      refine Sat.back (x + 1, ⟨u.version, insV (delV u.vals (L.getD x r00).name) ⟨(L.getD x r00).name, (L.getD x r00).val⟩, u.kept ++ [getV u.vals (L.getD x r00).name]⟩) [(50, some 5), (51, some 6)] rfl ?_ (way_do hw hx hd) (by show L.length - (x + 1) < L.length - x; omega)
      ((repeat' (first | exact AllP.nil | with_reducible refine AllP.cons ?_ ?_)) <;> first | exact rfl | exact trivial | exact Int.natCast_add_one _ | exact ⟨rfl, rfl⟩ | exact ⟨rfl, rfl, rfl⟩ | exact ⟨rfl, rfl, rfl, rfl⟩ | exact ⟨rfl, .inl rfl⟩ | exact ⟨rfl, .inr rfl⟩ | exact pur | (intro _; exact rfl) | (intro _; exact trivial) | (intro _; exact pur) | (intro _ _; exact rfl) | exact pur_val _ | exact pur_act _ _ | exact ⟨rfl, rfl, rfl, hl2.symm⟩ | exact ⟨rfl, rfl, rfl, by simp [EV.len, EV.sub]; done⟩ | (refine ⟨rfl, rfl, rfl, ?_⟩; simp [EV.len, EV.sub]; omega))
    · have hk : tidK (L.getD x r00).kind = 129 := by unfold tidK; rw [if_neg (by omega), if_neg (by omega)]
      have hd : doS u (L.getD x r00) = some ⟨u.version, delV u.vals (L.getD x r00).name, u.kept ++ [getV u.vals (L.getD x r00).name]⟩ := by unfold doS; rw [if_neg (by omega), if_neg (by omega)]
      refine Sat.mfM (ddo_mf ver u.vals u.kept (L.getD x r00) hw.rise (by omega) (by omega)) rfl rfl ⟨_, Tryz.underlying111⟩ (fun v w => by rw [hk]; exact mdo3 v w) (by kernel_rfl) rfl rfl rfl (by (repeat' (first | exact AllP.nil | with_reducible refine AllP.cons ?_ ?_)) <;> (first | exact rfl | exact True.intro | exact pur_val _ | exact purX)) rfl ?_
      repeat' (first
        | ((with_reducible apply Sat.run (X := X64)); exact rfl; (first | exact True.intro | (exact phi) | skip)) | fail)
      refine Sat.back (x + 1, ⟨u.version, delV u.vals (L.getD x r00).name, u.kept ++ [getV u.vals (L.getD x r00).name]⟩) [(51, some 5)] rfl ?_ (way_do hw hx hd) (by show L.length - (x + 1) < L.length - x; omega)
      ((repeat' (first | exact AllP.nil | with_reducible refine AllP.cons ?_ ?_)) <;> first | exact rfl | exact trivial | exact Int.natCast_add_one _ | exact ⟨rfl, rfl⟩ | exact ⟨rfl, rfl, rfl⟩ | exact ⟨rfl, rfl, rfl, rfl⟩ | exact ⟨rfl, .inl rfl⟩ | exact ⟨rfl, .inr rfl⟩ | exact pur | (intro _; exact rfl) | (intro _; exact trivial) | (intro _; exact pur) | (intro _ _; exact rfl) | exact pur_val _ | exact pur_act _ _ | exact ⟨rfl, rfl, rfl, hl2.symm⟩ | exact ⟨rfl, rfl, rfl, by simp [EV.len, EV.sub]; done⟩ | (refine ⟨rfl, rfl, rfl, ?_⟩; simp [EV.len, EV.sub]; omega))
  · have hxl : x = L.length := by have := hw.le; omega
    have hut : u = t := by
      have := hw.run
      rw [hxl, List.take_length, hrun] at this
      exact (Option.some.inj this).symm
    subst hut
    repeat' (first
      | ((with_reducible apply Sat.run (X := X64)); exact rfl; (first | exact True.intro | (exact phi) | skip))
      | ((with_reducible apply Sat.cond_pf); exact rfl; (try dsimp only [V.EV.sub, V.EV.len]); first | assumption | omega) | fail)
    exact Sat.fendD1 idle_ok (by kernel_rfl) rfl rfl True.intro rfl ⟨rfl, rfl, rfl, rfl, trivial⟩ (.inl rfl)
theorem run_do_no (ver : Int) (s : SetL) (L : List RuleL) (hs : Way doS s L 0 s) (hL : L.length ≤ 8) (hall : ∀ i, i < L.length → RuleOk (L.getD i r00)) (hrun : runL doS s L = none) : MF Tryz.prog [] 65 [0, 1, 2, 3] (runA "inlay/settings.do" L) (runM ver s L) (.bool false) [] := by
  refine MF.mkD (ids := ids4) 6 Tryz.func65 rfl Tryz.ntmps65 rfl rfl rfl fun T w0 E => ?_
  repeat' (first
    | ((with_reducible apply Sat.defer []); exact rfl; exact rfl; exact rfl; exact rfl; exact rfl; intro Ed bd)
    | ((with_reducible apply Sat.run (X := X64)); exact rfl; (first | exact True.intro | (exact phi) | skip)) | fail)
  apply Sat.loop (α := Nat × SetL) (fun x => Way doS s L x.1 x.2) (fun x => L.length - x.1) (0, s) (fun x => [(12, .int .i64 (x.1 : Int))]) (fun x => [(0, stC ver 50 x.2.vals.length 51 x.2.kept.length), (50, .row 53 (valE x.2.vals)), (51, .row 53 (valE x.2.kept))]) [1, 2] [(50, some 1), (51, some 2)] 0
  · intro x; exact rfl
  · intro x; exact rfl
  · exact rfl
  · exact rfl
  · ((repeat' (first | exact AllP.nil | with_reducible refine AllP.cons ?_ ?_)) <;> first | exact rfl | exact trivial | exact Int.natCast_add_one _ | exact ⟨rfl, rfl⟩ | exact ⟨rfl, rfl, rfl⟩ | exact ⟨rfl, rfl, rfl, rfl⟩ | exact ⟨rfl, .inl rfl⟩ | exact ⟨rfl, .inr rfl⟩ | exact pur | (intro _; exact rfl) | (intro _; exact trivial) | (intro _; exact pur) | (intro _ _; exact rfl) | exact pur_val _ | exact pur_act _ _)
  · exact hs
  rintro ⟨x, u⟩ hw
  dsimp only at hw
  by_cases hx : x < L.length
  · have hr := hall x hx
    have hnv := hw.nv
    have hnk := hw.nk
    repeat' (first
      | ((with_reducible apply Sat.run (X := X64)); exact rfl; (first | exact True.intro | (exact phi) | skip))
      | ((with_reducible apply Sat.cond_pt); exact rfl; (try dsimp only [V.EV.sub, V.EV.len]); first | assumption | omega) | fail)
    rw [show L.getD (0 + (((x, u).fst : Nat) : Int).toNat) r00 = L.getD x r00 by rw [Nat.zero_add, Int.toNat_natCast]]
    rcases hr.kind with k1 | k1 | k1
    · have hk : tidK (L.getD x r00).kind = 127 := by unfold tidK; rw [if_pos k1]
      by_cases hc : hasV u.vals (L.getD x r00).name = true ∧ hasV u.vals (L.getD x r00).to = false
      · have hd : doS u (L.getD x r00) = some ⟨u.version, movL u.vals (L.getD x r00).name (L.getD x r00).to, u.kept⟩ := by unfold doS movV; rw [if_pos k1, if_pos hc]; rfl
        refine Sat.mfM (rendo_yes ver u.vals u.kept u.kept.length (L.getD x r00) hw.rise (by omega) hc.1 hc.2 (hr.to k1).1) rfl rfl ⟨_, Tryz.underlying111⟩ (fun v w => by rw [hk]; exact mdo1 v w) (by kernel_rfl) rfl rfl rfl (by (repeat' (first | exact AllP.nil | with_reducible refine AllP.cons ?_ ?_)) <;> (first | exact rfl | exact True.intro | exact pur_val _ | exact purX)) rfl ?_
        repeat' (first
          | ((with_reducible apply Sat.run (X := X64)); exact rfl; (first | exact True.intro | (exact phi) | skip)) | fail)
        refine Sat.back (x + 1, ⟨u.version, movL u.vals (L.getD x r00).name (L.getD x r00).to, u.kept⟩) [(50, some 5)] rfl ?_ (way_do hw hx hd) (by show L.length - (x + 1) < L.length - x; omega)
        ((repeat' (first | exact AllP.nil | with_reducible refine AllP.cons ?_ ?_)) <;> first | exact rfl | exact trivial | exact Int.natCast_add_one _ | exact ⟨rfl, rfl⟩ | exact ⟨rfl, rfl, rfl⟩ | exact ⟨rfl, rfl, rfl, rfl⟩ | exact ⟨rfl, .inl rfl⟩ | exact ⟨rfl, .inr rfl⟩ | exact pur | (intro _; exact rfl) | (intro _; exact trivial) | (intro _; exact pur) | (intro _ _; exact rfl) | exact pur_val _ | exact pur_act _ _ | exact ⟨rfl, rfl, rfl, hl2.symm⟩ | exact ⟨rfl, rfl, rfl, by simp [EV.len, EV.sub]; done⟩ | (refine ⟨rfl, rfl, rfl, ?_⟩; simp [EV.len, EV.sub]; omega))
      · have hd : doS u (L.getD x r00) = none := by unfold doS movV; rw [if_pos k1, if_neg hc]; rfl
        refine Sat.mxM (rendo_no ver u.vals u.kept u.kept.length (L.getD x r00) hw.rise (by omega) hc) rfl rfl ⟨_, Tryz.underlying111⟩ (fun v w => by rw [hk]; exact mdo1 v w) (by kernel_rfl) rfl rfl (by (repeat' (first | exact AllP.nil | with_reducible refine AllP.cons ?_ ?_)) <;> (first | exact rfl | exact True.intro | exact pur_val _ | exact purX)) ?_
        exact SatP.fendD1 catch_ok (by kernel_rfl) rfl rfl rfl rfl True.intro rfl trivial
    · have hk : tidK (L.getD x r00).kind = 128 := by unfold tidK; rw [if_neg (by omega), if_pos k1]
      have hd : doS u (L.getD x r00) = some ⟨u.version, insV (delV u.vals (L.getD x r00).name) ⟨(L.getD x r00).name, (L.getD x r00).val⟩, u.kept ++ [getV u.vals (L.getD x r00).name]⟩ := by unfold doS; rw [if_neg (by omega), if_pos k1]
      refine Sat.mfM (pdo_mf ver u.vals u.kept (L.getD x r00) hw.rise (by omega) (by omega) hr.name) rfl rfl ⟨_, Tryz.underlying111⟩ (fun v w => by rw [hk]; exact mdo2 v w) (by kernel_rfl) rfl rfl rfl (by (repeat' (first | exact AllP.nil | with_reducible refine AllP.cons ?_ ?_)) <;> (first | exact rfl | exact True.intro | exact pur_val _ | exact purX)) rfl ?_
      repeat' (first
        | ((with_reducible apply Sat.run (X := X64)); exact rfl; (first | exact True.intro | (exact phi) | skip)) | fail)
      refine Sat.back (x + 1, ⟨u.version, insV (delV u.vals (L.getD x r00).name) ⟨(L.getD x r00).name, (L.getD x r00).val⟩, u.kept ++ [getV u.vals (L.getD x r00).name]⟩) [(50, some 5), (51, some 6)] rfl ?_ (way_do hw hx hd) (by show L.length - (x + 1) < L.length - x; omega)
      ((repeat' (first | exact AllP.nil | with_reducible refine AllP.cons ?_ ?_)) <;> first | exact rfl | exact trivial | exact Int.natCast_add_one _ | exact ⟨rfl, rfl⟩ | exact ⟨rfl, rfl, rfl⟩ | exact ⟨rfl, rfl, rfl, rfl⟩ | exact ⟨rfl, .inl rfl⟩ | exact ⟨rfl, .inr rfl⟩ | exact pur | (intro _; exact rfl) | (intro _; exact trivial) | (intro _; exact pur) | (intro _ _; exact rfl) | exact pur_val _ | exact pur_act _ _ | exact ⟨rfl, rfl, rfl, hl2.symm⟩ | exact ⟨rfl, rfl, rfl, by simp [EV.len, EV.sub]; done⟩ | (refine ⟨rfl, rfl, rfl, ?_⟩; simp [EV.len, EV.sub]; omega))
    · have hk : tidK (L.getD x r00).kind = 129 := by unfold tidK; rw [if_neg (by omega), if_neg (by omega)]
      have hd : doS u (L.getD x r00) = some ⟨u.version, delV u.vals (L.getD x r00).name, u.kept ++ [getV u.vals (L.getD x r00).name]⟩ := by unfold doS; rw [if_neg (by omega), if_neg (by omega)]
      refine Sat.mfM (ddo_mf ver u.vals u.kept (L.getD x r00) hw.rise (by omega) (by omega)) rfl rfl ⟨_, Tryz.underlying111⟩ (fun v w => by rw [hk]; exact mdo3 v w) (by kernel_rfl) rfl rfl rfl (by (repeat' (first | exact AllP.nil | with_reducible refine AllP.cons ?_ ?_)) <;> (first | exact rfl | exact True.intro | exact pur_val _ | exact purX)) rfl ?_
      repeat' (first
        | ((with_reducible apply Sat.run (X := X64)); exact rfl; (first | exact True.intro | (exact phi) | skip)) | fail)
      refine Sat.back (x + 1, ⟨u.version, delV u.vals (L.getD x r00).name, u.kept ++ [getV u.vals (L.getD x r00).name]⟩) [(51, some 5)] rfl ?_ (way_do hw hx hd) (by show L.length - (x + 1) < L.length - x; omega)
      ((repeat' (first | exact AllP.nil | with_reducible refine AllP.cons ?_ ?_)) <;> first | exact rfl | exact trivial | exact Int.natCast_add_one _ | exact ⟨rfl, rfl⟩ | exact ⟨rfl, rfl, rfl⟩ | exact ⟨rfl, rfl, rfl, rfl⟩ | exact ⟨rfl, .inl rfl⟩ | exact ⟨rfl, .inr rfl⟩ | exact pur | (intro _; exact rfl) | (intro _; exact trivial) | (intro _; exact pur) | (intro _ _; exact rfl) | exact pur_val _ | exact pur_act _ _ | exact ⟨rfl, rfl, rfl, hl2.symm⟩ | exact ⟨rfl, rfl, rfl, by simp [EV.len, EV.sub]; done⟩ | (refine ⟨rfl, rfl, rfl, ?_⟩; simp [EV.len, EV.sub]; omega))
  · have hxl : x = L.length := by have := hw.le; omega
    exfalso
    have := hw.run
    rw [hxl, List.take_length, hrun] at this
    cases this
theorem run_undo_yes (ver : Int) (s t : SetL) (L : List RuleL) (hs : Way undoS s L 0 s) (hL : L.length ≤ 8) (hall : ∀ i, i < L.length → RuleOk (L.getD i r00)) (hrun : runL undoS s L = some t) : MF Tryz.prog [] 65 [0, 1, 2, 3] (runA "inlay/settings.undo" L) (runM ver s L) (.bool true) [(0, stC ver 50 t.vals.length 51 t.kept.length), (50, .row 53 (valE t.vals)), (51, .row 53 (valE t.kept)), (3, .row 111 (actE L))] := by
  refine MF.mkD (ids := ids4) 6 Tryz.func65 rfl Tryz.ntmps65 rfl rfl rfl fun T w0 E => ?_
  repeat' (first
    | ((with_reducible apply Sat.defer []); exact rfl; exact rfl; exact rfl; exact rfl; exact rfl; intro Ed bd)
    | ((with_reducible apply Sat.run (X := X64)); exact rfl; (first | exact True.intro | (exact phi) | skip)) | fail)
  apply Sat.loop (α := Nat × SetL) (fun x => Way undoS s L x.1 x.2) (fun x => L.length - x.1) (0, s) (fun x => [(12, .int .i64 (x.1 : Int))]) (fun x => [(0, stC ver 50 x.2.vals.length 51 x.2.kept.length), (50, .row 53 (valE x.2.vals)), (51, .row 53 (valE x.2.kept))]) [1, 2] [(50, some 1), (51, some 2)] 0
  · intro x; exact rfl
  · intro x; exact rfl
  · exact rfl
  · exact rfl
  · ((repeat' (first | exact AllP.nil | with_reducible refine AllP.cons ?_ ?_)) <;> first | exact rfl | exact trivial | exact Int.natCast_add_one _ | exact ⟨rfl, rfl⟩ | exact ⟨rfl, rfl, rfl⟩ | exact ⟨rfl, rfl, rfl, rfl⟩ | exact ⟨rfl, .inl rfl⟩ | exact ⟨rfl, .inr rfl⟩ | exact pur | (intro _; exact rfl) | (intro _; exact trivial) | (intro _; exact pur) | (intro _ _; exact rfl) | exact pur_val _ | exact pur_act _ _)
  · exact hs
  rintro ⟨x, u⟩ hw
  dsimp only at hw
  by_cases hx : x < L.length
  · have hr := hall x hx
    have hnv := hw.nv
    have hnk := hw.nk
    repeat' (first
      | ((with_reducible apply Sat.run (X := X64)); exact rfl; (first | exact True.intro | (exact phi) | skip))
      | ((with_reducible apply Sat.cond_pt); exact rfl; (try dsimp only [V.EV.sub, V.EV.len]); first | assumption | omega) | fail)
    rw [show L.getD (0 + (((x, u).fst : Nat) : Int).toNat) r00 = L.getD x r00 by rw [Nat.zero_add, Int.toNat_natCast]]
    rcases hr.kind with k1 | k1 | k1
    · have hk : tidK (L.getD x r00).kind = 127 := by unfold tidK; rw [if_pos k1]
      by_cases hc : hasV u.vals (L.getD x r00).to = true ∧ hasV u.vals (L.getD x r00).name = false
      · have hd : undoS u (L.getD x r00) = some ⟨u.version, movL u.vals (L.getD x r00).to (L.getD x r00).name, u.kept⟩ := by unfold undoS movV; rw [if_pos k1, if_pos hc]; rfl
        refine Sat.mfM (renundo_yes ver u.vals u.kept u.kept.length (L.getD x r00) hw.rise (by omega) hc.1 hc.2 hr.name) rfl rfl ⟨_, Tryz.underlying111⟩ (fun v w => by rw [hk]; exact mundo1 v w) (by kernel_rfl) rfl rfl rfl (by (repeat' (first | exact AllP.nil | with_reducible refine AllP.cons ?_ ?_)) <;> (first | exact rfl | exact True.intro | exact pur_val _ | exact purX)) rfl ?_
        repeat' (first
          | ((with_reducible apply Sat.run (X := X64)); exact rfl; (first | exact True.intro | (exact phi) | skip)) | fail)
        refine Sat.back (x + 1, ⟨u.version, movL u.vals (L.getD x r00).to (L.getD x r00).name, u.kept⟩) [(50, some 5)] rfl ?_ (way_undo hw hx hd) (by show L.length - (x + 1) < L.length - x; omega)
        ((repeat' (first | exact AllP.nil | with_reducible refine AllP.cons ?_ ?_)) <;> first | exact rfl | exact trivial | exact Int.natCast_add_one _ | exact ⟨rfl, rfl⟩ | exact ⟨rfl, rfl, rfl⟩ | exact ⟨rfl, rfl, rfl, rfl⟩ | exact ⟨rfl, .inl rfl⟩ | exact ⟨rfl, .inr rfl⟩ | exact pur | (intro _; exact rfl) | (intro _; exact trivial) | (intro _; exact pur) | (intro _ _; exact rfl) | exact pur_val _ | exact pur_act _ _ | exact ⟨rfl, rfl, rfl, hl2.symm⟩ | exact ⟨rfl, rfl, rfl, by simp [EV.len, EV.sub]; done⟩ | (refine ⟨rfl, rfl, rfl, ?_⟩; simp [EV.len, EV.sub]; omega))
      · have hd : undoS u (L.getD x r00) = none := by unfold undoS movV; rw [if_pos k1, if_neg hc]; rfl
        exfalso
        rw [run_none undoS s u L x hx hw.run hd] at hrun
        cases hrun
    · have hk : tidK (L.getD x r00).kind = 128 := by unfold tidK; rw [if_neg (by omega), if_pos k1]
      cases hh : hasV u.vals (L.getD x r00).name with
      | false =>
        have hd : undoS u (L.getD x r00) = none := by unfold undoS; rw [if_neg (by omega), if_neg (by rw [hh, decide_eq_true k1]; simp)]
        exfalso
        rw [run_none undoS s u L x hx hw.run hd] at hrun
        cases hrun
      | true =>
        rcases Nat.eq_zero_or_pos u.kept.length with hm | hm0
        · skip
          have hnil : u.kept = [] := List.eq_nil_of_length_eq_zero hm
          have hd : undoS u (L.getD x r00) = none := by unfold undoS; rw [if_neg (by omega), if_pos (by rw [hh, decide_eq_true k1]), hnil]; rfl
          have hsp : ∀ m, m = 0 → MX Tryz.prog [] 161 [0, 1, 2] [.agg (ruleP (L.getD x r00)), .ptr 0 0] [(0, stC ver 1 u.vals.length 2 m), (1, .row 53 (valE u.vals)), (2, .row 53 (valE u.kept))] 131 := fun m hm => by subst hm; exact pundo_no2 ver u.vals u.kept (L.getD x r00) hw.rise (by omega) hh
          have hsp := hsp _ hm
          exfalso
          rw [run_none undoS s u L x hx hw.run hd] at hrun
          cases hrun
        · obtain ⟨m, hm⟩ : ∃ m, u.kept.length = m + 1 := ⟨u.kept.length - 1, by omega⟩
          obtain ⟨hl1, hl2, hl3⟩ := last_of u.kept m hm
          by_cases hc : (u.kept.getD m v00).name = [] ∨ (u.kept.getD m v00).name = (L.getD x r00).name
          · have hd0 : undoS u (L.getD x r00) = some ⟨u.version, putV (delV u.vals (L.getD x r00).name) (u.kept.getD m v00), u.kept.dropLast⟩ := by unfold undoS popV; rw [if_neg (by omega), if_pos (by rw [hh, decide_eq_true k1]), hl1]; dsimp only; rw [if_pos hc]; rfl
            by_cases hn : (u.kept.getD m v00).name = []
            · have hd : undoS u (L.getD x r00) = some ⟨u.version, delV u.vals (L.getD x r00).name, u.kept.dropLast⟩ := by rw [hd0]; unfold putV; rw [if_pos hn]
              have hsp := pundo_yes0 ver u.vals u.kept m (L.getD x r00) hw.rise (by omega) hh (by omega) (by omega) hn
              rw [← hm] at hsp
              refine Sat.mfM (hsp) rfl rfl ⟨_, Tryz.underlying111⟩ (fun v w => by rw [hk]; exact mundo2 v w) (by kernel_rfl) rfl rfl rfl (by (repeat' (first | exact AllP.nil | with_reducible refine AllP.cons ?_ ?_)) <;> (first | exact rfl | exact True.intro | exact pur_val _ | exact purX)) rfl ?_
              repeat' (first
                | ((with_reducible apply Sat.run (X := X64)); exact rfl; (first | exact True.intro | (exact phi) | skip)) | fail)
              refine Sat.reX (i := 51) (valE u.kept.dropLast) rfl rfl (by simp [EV.len]) rfl (fun y hy => by show valP _ = valP _; rw [hl3 y (by have : y < u.kept.dropLast.length := hy; omega)]) ?_
              refine Sat.back (x + 1, ⟨u.version, delV u.vals (L.getD x r00).name, u.kept.dropLast⟩) [] rfl ?_ (way_undo hw hx hd) (by show L.length - (x + 1) < L.length - x; omega)
              ((repeat' (first | exact AllP.nil | with_reducible refine AllP.cons ?_ ?_)) <;> first | exact rfl | exact trivial | exact Int.natCast_add_one _ | exact ⟨rfl, rfl⟩ | exact ⟨rfl, rfl, rfl⟩ | exact ⟨rfl, rfl, rfl, rfl⟩ | exact ⟨rfl, .inl rfl⟩ | exact ⟨rfl, .inr rfl⟩ | exact pur | (intro _; exact rfl) | (intro _; exact trivial) | (intro _; exact pur) | (intro _ _; exact rfl) | exact pur_val _ | exact pur_act _ _ | exact ⟨rfl, rfl, rfl, hl2.symm⟩ | exact ⟨rfl, rfl, rfl, by simp [EV.len, EV.sub]; done⟩ | (refine ⟨rfl, rfl, rfl, ?_⟩; simp [EV.len, EV.sub]; omega))
            · have hd : undoS u (L.getD x r00) = some ⟨u.version, insV (delV u.vals (L.getD x r00).name) (u.kept.getD m v00), u.kept.dropLast⟩ := by rw [hd0]; unfold putV; rw [if_neg hn]
              have hsp := pundo_yes1 ver u.vals u.kept m (L.getD x r00) hw.rise (by omega) hh (by omega) (by omega) (hc.resolve_left hn) hr.name
              rw [← hm] at hsp
              refine Sat.mfM (hsp) rfl rfl ⟨_, Tryz.underlying111⟩ (fun v w => by rw [hk]; exact mundo2 v w) (by kernel_rfl) rfl rfl rfl (by (repeat' (first | exact AllP.nil | with_reducible refine AllP.cons ?_ ?_)) <;> (first | exact rfl | exact True.intro | exact pur_val _ | exact purX)) rfl ?_
              repeat' (first
                | ((with_reducible apply Sat.run (X := X64)); exact rfl; (first | exact True.intro | (exact phi) | skip)) | fail)
              refine Sat.reX (i := 51) (valE u.kept.dropLast) rfl rfl (by simp [EV.len]) rfl (fun y hy => by show valP _ = valP _; rw [hl3 y (by have : y < u.kept.dropLast.length := hy; omega)]) ?_
              refine Sat.back (x + 1, ⟨u.version, insV (delV u.vals (L.getD x r00).name) (u.kept.getD m v00), u.kept.dropLast⟩) [(50, some 5)] rfl ?_ (way_undo hw hx hd) (by show L.length - (x + 1) < L.length - x; omega)
              ((repeat' (first | exact AllP.nil | with_reducible refine AllP.cons ?_ ?_)) <;> first | exact rfl | exact trivial | exact Int.natCast_add_one _ | exact ⟨rfl, rfl⟩ | exact ⟨rfl, rfl, rfl⟩ | exact ⟨rfl, rfl, rfl, rfl⟩ | exact ⟨rfl, .inl rfl⟩ | exact ⟨rfl, .inr rfl⟩ | exact pur | (intro _; exact rfl) | (intro _; exact trivial) | (intro _; exact pur) | (intro _ _; exact rfl) | exact pur_val _ | exact pur_act _ _ | exact ⟨rfl, rfl, rfl, hl2.symm⟩ | exact ⟨rfl, rfl, rfl, by simp [EV.len, EV.sub]; done⟩ | (refine ⟨rfl, rfl, rfl, ?_⟩; simp [EV.len, EV.sub]; omega))
          · have hd : undoS u (L.getD x r00) = none := by unfold undoS popV; rw [if_neg (by omega), if_pos (by rw [hh, decide_eq_true k1]), hl1]; dsimp only; rw [if_neg hc]; rfl
            have hsp := pundo_no3 ver u.vals u.kept m (L.getD x r00) hw.rise (by omega) hh (by omega) (by omega) hc
            rw [← hm] at hsp
            exfalso
            rw [run_none undoS s u L x hx hw.run hd] at hrun
            cases hrun
    · have hk : tidK (L.getD x r00).kind = 129 := by unfold tidK; rw [if_neg (by omega), if_neg (by omega)]
      cases hh : hasV u.vals (L.getD x r00).name with
      | true =>
        have hd : undoS u (L.getD x r00) = none := by unfold undoS; rw [if_neg (by omega), if_neg (by rw [hh, decide_eq_false (show ¬ (L.getD x r00).kind = 2 by omega)]; simp)]
        exfalso
        rw [run_none undoS s u L x hx hw.run hd] at hrun
        cases hrun
      | false =>
        rcases Nat.eq_zero_or_pos u.kept.length with hm | hm0
        · skip
          have hnil : u.kept = [] := List.eq_nil_of_length_eq_zero hm
          have hd : undoS u (L.getD x r00) = none := by unfold undoS; rw [if_neg (by omega), if_pos (by rw [hh, decide_eq_false (show ¬ (L.getD x r00).kind = 2 by omega)]), hnil]; rfl
          have hsp : ∀ m, m = 0 → MX Tryz.prog [] 165 [0, 1, 2] [.agg (ruleP (L.getD x r00)), .ptr 0 0] [(0, stC ver 1 u.vals.length 2 m), (1, .row 53 (valE u.vals)), (2, .row 53 (valE u.kept))] 131 := fun m hm => by subst hm; exact dundo_no2 ver u.vals u.kept (L.getD x r00) hw.rise (by omega) hh
          have hsp := hsp _ hm
          exfalso
          rw [run_none undoS s u L x hx hw.run hd] at hrun
          cases hrun
        · obtain ⟨m, hm⟩ : ∃ m, u.kept.length = m + 1 := ⟨u.kept.length - 1, by omega⟩
          obtain ⟨hl1, hl2, hl3⟩ := last_of u.kept m hm
          by_cases hc : (u.kept.getD m v00).name = [] ∨ (u.kept.getD m v00).name = (L.getD x r00).name
          · have hd0 : undoS u (L.getD x r00) = some ⟨u.version, putV (delV u.vals (L.getD x r00).name) (u.kept.getD m v00), u.kept.dropLast⟩ := by unfold undoS popV; rw [if_neg (by omega), if_pos (by rw [hh, decide_eq_false (show ¬ (L.getD x r00).kind = 2 by omega)]), hl1]; dsimp only; rw [if_pos hc]; rfl
            by_cases hn : (u.kept.getD m v00).name = []
            · have hd : undoS u (L.getD x r00) = some ⟨u.version, u.vals, u.kept.dropLast⟩ := by rw [hd0]; unfold putV; rw [if_pos hn]; rw [delV_no _ _ hh]
              have hsp := dundo_yes0 ver u.vals u.kept m (L.getD x r00) hw.rise (by omega) hh (by omega) (by omega) hn
              rw [← hm] at hsp
              refine Sat.mfM (hsp) rfl rfl ⟨_, Tryz.underlying111⟩ (fun v w => by rw [hk]; exact mundo3 v w) (by kernel_rfl) rfl rfl rfl (by (repeat' (first | exact AllP.nil | with_reducible refine AllP.cons ?_ ?_)) <;> (first | exact rfl | exact True.intro | exact pur_val _ | exact purX)) rfl ?_
              repeat' (first
                | ((with_reducible apply Sat.run (X := X64)); exact rfl; (first | exact True.intro | (exact phi) | skip)) | fail)
              refine Sat.reX (i := 51) (valE u.kept.dropLast) rfl rfl (by simp [EV.len]) rfl (fun y hy => by show valP _ = valP _; rw [hl3 y (by have : y < u.kept.dropLast.length := hy; omega)]) ?_
              refine Sat.back (x + 1, ⟨u.version, u.vals, u.kept.dropLast⟩) [] rfl ?_ (way_undo hw hx hd) (by show L.length - (x + 1) < L.length - x; omega)
              ((repeat' (first | exact AllP.nil | with_reducible refine AllP.cons ?_ ?_)) <;> first | exact rfl | exact trivial | exact Int.natCast_add_one _ | exact ⟨rfl, rfl⟩ | exact ⟨rfl, rfl, rfl⟩ | exact ⟨rfl, rfl, rfl, rfl⟩ | exact ⟨rfl, .inl rfl⟩ | exact ⟨rfl, .inr rfl⟩ | exact pur | (intro _; exact rfl) | (intro _; exact trivial) | (intro _; exact pur) | (intro _ _; exact rfl) | exact pur_val _ | exact pur_act _ _ | exact ⟨rfl, rfl, rfl, hl2.symm⟩ | exact ⟨rfl, rfl, rfl, by simp [EV.len, EV.sub]; done⟩ | (refine ⟨rfl, rfl, rfl, ?_⟩; simp [EV.len, EV.sub]; omega))
            · have hd : undoS u (L.getD x r00) = some ⟨u.version, insV u.vals (u.kept.getD m v00), u.kept.dropLast⟩ := by rw [hd0]; unfold putV; rw [if_neg hn]; rw [delV_no _ _ hh]
              have hsp := dundo_yes1 ver u.vals u.kept m (L.getD x r00) hw.rise (by omega) hh (by omega) (by omega) (hc.resolve_left hn) hr.name
              rw [← hm] at hsp
              refine Sat.mfM (hsp) rfl rfl ⟨_, Tryz.underlying111⟩ (fun v w => by rw [hk]; exact mundo3 v w) (by kernel_rfl) rfl rfl rfl (by (repeat' (first | exact AllP.nil | with_reducible refine AllP.cons ?_ ?_)) <;> (first | exact rfl | exact True.intro | exact pur_val _ | exact purX)) rfl ?_
              repeat' (first
                | ((with_reducible apply Sat.run (X := X64)); exact rfl; (first | exact True.intro | (exact phi) | skip)) | fail)
              refine Sat.reX (i := 51) (valE u.kept.dropLast) rfl rfl (by simp [EV.len]) rfl (fun y hy => by show valP _ = valP _; rw [hl3 y (by have : y < u.kept.dropLast.length := hy; omega)]) ?_
              refine Sat.back (x + 1, ⟨u.version, insV u.vals (u.kept.getD m v00), u.kept.dropLast⟩) [(50, some 5)] rfl ?_ (way_undo hw hx hd) (by show L.length - (x + 1) < L.length - x; omega)
              ((repeat' (first | exact AllP.nil | with_reducible refine AllP.cons ?_ ?_)) <;> first | exact rfl | exact trivial | exact Int.natCast_add_one _ | exact ⟨rfl, rfl⟩ | exact ⟨rfl, rfl, rfl⟩ | exact ⟨rfl, rfl, rfl, rfl⟩ | exact ⟨rfl, .inl rfl⟩ | exact ⟨rfl, .inr rfl⟩ | exact pur | (intro _; exact rfl) | (intro _; exact trivial) | (intro _; exact pur) | (intro _ _; exact rfl) | exact pur_val _ | exact pur_act _ _ | exact ⟨rfl, rfl, rfl, hl2.symm⟩ | exact ⟨rfl, rfl, rfl, by simp [EV.len, EV.sub]; done⟩ | (refine ⟨rfl, rfl, rfl, ?_⟩; simp [EV.len, EV.sub]; omega))
          · have hd : undoS u (L.getD x r00) = none := by unfold undoS popV; rw [if_neg (by omega), if_pos (by rw [hh, decide_eq_false (show ¬ (L.getD x r00).kind = 2 by omega)]), hl1]; dsimp only; rw [if_neg hc]; rfl
            have hsp := dundo_no3 ver u.vals u.kept m (L.getD x r00) hw.rise (by omega) hh (by omega) (by omega) hc
            rw [← hm] at hsp
            exfalso
            rw [run_none undoS s u L x hx hw.run hd] at hrun
            cases hrun
  · have hxl : x = L.length := by have := hw.le; omega
    have hut : u = t := by
      have := hw.run
      rw [hxl, List.take_length, hrun] at this
      exact (Option.some.inj this).symm
    subst hut
    repeat' (first
      | ((with_reducible apply Sat.run (X := X64)); exact rfl; (first | exact True.intro | (exact phi) | skip))
      | ((with_reducible apply Sat.cond_pf); exact rfl; (try dsimp only [V.EV.sub, V.EV.len]); first | assumption | omega) | fail)
    exact Sat.fendD1 idle_ok (by kernel_rfl) rfl rfl True.intro rfl ⟨rfl, rfl, rfl, rfl, trivial⟩ (.inl rfl)
theorem run_undo_no (ver : Int) (s : SetL) (L : List RuleL) (hs : Way undoS s L 0 s) (hL : L.length ≤ 8) (hall : ∀ i, i < L.length → RuleOk (L.getD i r00)) (hrun : runL undoS s L = none) : MF Tryz.prog [] 65 [0, 1, 2, 3] (runA "inlay/settings.undo" L) (runM ver s L) (.bool false) [] := by
  refine MF.mkD (ids := ids4) 6 Tryz.func65 rfl Tryz.ntmps65 rfl rfl rfl fun T w0 E => ?_
  repeat' (first
    | ((with_reducible apply Sat.defer []); exact rfl; exact rfl; exact rfl; exact rfl; exact rfl; intro Ed bd)
    | ((with_reducible apply Sat.run (X := X64)); exact rfl; (first | exact True.intro | (exact phi) | skip)) | fail)
  apply Sat.loop (α := Nat × SetL) (fun x => Way undoS s L x.1 x.2) (fun x => L.length - x.1) (0, s) (fun x => [(12, .int .i64 (x.1 : Int))]) (fun x => [(0, stC ver 50 x.2.vals.length 51 x.2.kept.length), (50, .row 53 (valE x.2.vals)), (51, .row 53 (valE x.2.kept))]) [1, 2] [(50, some 1), (51, some 2)] 0
  · intro x; exact rfl
  · intro x; exact rfl
  · exact rfl
  · exact rfl
  · ((repeat' (first | exact AllP.nil | with_reducible refine AllP.cons ?_ ?_)) <;> first | exact rfl | exact trivial | exact Int.natCast_add_one _ | exact ⟨rfl, rfl⟩ | exact ⟨rfl, rfl, rfl⟩ | exact ⟨rfl, rfl, rfl, rfl⟩ | exact ⟨rfl, .inl rfl⟩ | exact ⟨rfl, .inr rfl⟩ | exact pur | (intro _; exact rfl) | (intro _; exact trivial) | (intro _; exact pur) | (intro _ _; exact rfl) | exact pur_val _ | exact pur_act _ _)
  · exact hs
  rintro ⟨x, u⟩ hw
  dsimp only at hw
  by_cases hx : x < L.length
  · have hr := hall x hx
    have hnv := hw.nv
    have hnk := hw.nk
    repeat' (first
      | ((with_reducible apply Sat.run (X := X64)); exact rfl; (first | exact True.intro | (exact phi) | skip))
      | ((with_reducible apply Sat.cond_pt); exact rfl; (try dsimp only [V.EV.sub, V.EV.len]); first | assumption | omega) | fail)
    rw [show L.getD (0 + (((x, u).fst : Nat) : Int).toNat) r00 = L.getD x r00 by rw [Nat.zero_add, Int.toNat_natCast]]
    rcases hr.kind with k1 | k1 | k1
    · have hk : tidK (L.getD x r00).kind = 127 := by unfold tidK; rw [if_pos k1]
      by_cases hc : hasV u.vals (L.getD x r00).to = true ∧ hasV u.vals (L.getD x r00).name = false
      · have hd : undoS u (L.getD x r00) = some ⟨u.version, movL u.vals (L.getD x r00).to (L.getD x r00).name, u.kept⟩ := by unfold undoS movV; rw [if_pos k1, if_pos hc]; rfl
        refine Sat.mfM (renundo_yes ver u.vals u.kept u.kept.length (L.getD x r00) hw.rise (by omega) hc.1 hc.2 hr.name) rfl rfl ⟨_, Tryz.underlying111⟩ (fun v w => by rw [hk]; exact mundo1 v w) (by kernel_rfl) rfl rfl rfl (by (repeat' (first | exact AllP.nil | with_reducible refine AllP.cons ?_ ?_)) <;> (first | exact rfl | exact True.intro | exact pur_val _ | exact purX)) rfl ?_
        repeat' (first
          | ((with_reducible apply Sat.run (X := X64)); exact rfl; (first | exact True.intro | (exact phi) | skip)) | fail)
        refine Sat.back (x + 1, ⟨u.version, movL u.vals (L.getD x r00).to (L.getD x r00).name, u.kept⟩) [(50, some 5)] rfl ?_ (way_undo hw hx hd) (by show L.length - (x + 1) < L.length - x; omega)
        ((repeat' (first | exact AllP.nil | with_reducible refine AllP.cons ?_ ?_)) <;> first | exact rfl | exact trivial | exact Int.natCast_add_one _ | exact ⟨rfl, rfl⟩ | exact ⟨rfl, rfl, rfl⟩ | exact ⟨rfl, rfl, rfl, rfl⟩ | exact ⟨rfl, .inl rfl⟩ | exact ⟨rfl, .inr rfl⟩ | exact pur | (intro _; exact rfl) | (intro _; exact trivial) | (intro _; exact pur) | (intro _ _; exact rfl) | exact pur_val _ | exact pur_act _ _ | exact ⟨rfl, rfl, rfl, hl2.symm⟩ | exact ⟨rfl, rfl, rfl, by simp [EV.len, EV.sub]; done⟩ | (refine ⟨rfl, rfl, rfl, ?_⟩; simp [EV.len, EV.sub]; omega))
      · have hd : undoS u (L.getD x r00) = none := by unfold undoS movV; rw [if_pos k1, if_neg hc]; rfl
        refine Sat.mxM (renundo_no ver u.vals u.kept u.kept.length (L.getD x r00) hw.rise (by omega) hc) rfl rfl ⟨_, Tryz.underlying111⟩ (fun v w => by rw [hk]; exact mundo1 v w) (by kernel_rfl) rfl rfl (by (repeat' (first | exact AllP.nil | with_reducible refine AllP.cons ?_ ?_)) <;> (first | exact rfl | exact True.intro | exact pur_val _ | exact purX)) ?_
        exact SatP.fendD1 catch_ok (by kernel_rfl) rfl rfl rfl rfl True.intro rfl trivial
    · have hk : tidK (L.getD x r00).kind = 128 := by unfold tidK; rw [if_neg (by omega), if_pos k1]
      cases hh : hasV u.vals (L.getD x r00).name with
      | false =>
        have hd : undoS u (L.getD x r00) = none := by unfold undoS; rw [if_neg (by omega), if_neg (by rw [hh, decide_eq_true k1]; simp)]
        refine Sat.mxM (pundo_no1 ver u.vals u.kept u.kept.length (L.getD x r00) hw.rise (by omega) hh) rfl rfl ⟨_, Tryz.underlying111⟩ (fun v w => by rw [hk]; exact mundo2 v w) (by kernel_rfl) rfl rfl (by (repeat' (first | exact AllP.nil | with_reducible refine AllP.cons ?_ ?_)) <;> (first | exact rfl | exact True.intro | exact pur_val _ | exact purX)) ?_
        exact SatP.fendD1 catch_ok (by kernel_rfl) rfl rfl rfl rfl True.intro rfl trivial
      | true =>
        rcases Nat.eq_zero_or_pos u.kept.length with hm | hm0
        · skip
          have hnil : u.kept = [] := List.eq_nil_of_length_eq_zero hm
          have hd : undoS u (L.getD x r00) = none := by unfold undoS; rw [if_neg (by omega), if_pos (by rw [hh, decide_eq_true k1]), hnil]; rfl
          have hsp : ∀ m, m = 0 → MX Tryz.prog [] 161 [0, 1, 2] [.agg (ruleP (L.getD x r00)), .ptr 0 0] [(0, stC ver 1 u.vals.length 2 m), (1, .row 53 (valE u.vals)), (2, .row 53 (valE u.kept))] 131 := fun m hm => by subst hm; exact pundo_no2 ver u.vals u.kept (L.getD x r00) hw.rise (by omega) hh
          have hsp := hsp _ hm
          refine Sat.mxM (hsp) rfl rfl ⟨_, Tryz.underlying111⟩ (fun v w => by rw [hk]; exact mundo2 v w) (by kernel_rfl) rfl rfl (by (repeat' (first | exact AllP.nil | with_reducible refine AllP.cons ?_ ?_)) <;> (first | exact rfl | exact True.intro | exact pur_val _ | exact purX)) ?_
          exact SatP.fendD1 catch_ok (by kernel_rfl) rfl rfl rfl rfl True.intro rfl trivial
        · obtain ⟨m, hm⟩ : ∃ m, u.kept.length = m + 1 := ⟨u.kept.length - 1, by omega⟩
          obtain ⟨hl1, hl2, hl3⟩ := last_of u.kept m hm
          by_cases hc : (u.kept.getD m v00).name = [] ∨ (u.kept.getD m v00).name = (L.getD x r00).name
          · have hd0 : undoS u (L.getD x r00) = some ⟨u.version, putV (delV u.vals (L.getD x r00).name) (u.kept.getD m v00), u.kept.dropLast⟩ := by unfold undoS popV; rw [if_neg (by omega), if_pos (by rw [hh, decide_eq_true k1]), hl1]; dsimp only; rw [if_pos hc]; rfl
            by_cases hn : (u.kept.getD m v00).name = []
            · have hd : undoS u (L.getD x r00) = some ⟨u.version, delV u.vals (L.getD x r00).name, u.kept.dropLast⟩ := by rw [hd0]; unfold putV; rw [if_pos hn]
              have hsp := pundo_yes0 ver u.vals u.kept m (L.getD x r00) hw.rise (by omega) hh (by omega) (by omega) hn
              rw [← hm] at hsp
              refine Sat.mfM (hsp) rfl rfl ⟨_, Tryz.underlying111⟩ (fun v w => by rw [hk]; exact mundo2 v w) (by kernel_rfl) rfl rfl rfl (by (repeat' (first | exact AllP.nil | with_reducible refine AllP.cons ?_ ?_)) <;> (first | exact rfl | exact True.intro | exact pur_val _ | exact purX)) rfl ?_
              repeat' (first
                | ((with_reducible apply Sat.run (X := X64)); exact rfl; (first | exact True.intro | (exact phi) | skip)) | fail)
              refine Sat.reX (i := 51) (valE u.kept.dropLast) rfl rfl (by simp [EV.len]) rfl (fun y hy => by show valP _ = valP _; rw [hl3 y (by have : y < u.kept.dropLast.length := hy; omega)]) ?_
              refine Sat.back (x + 1, ⟨u.version, delV u.vals (L.getD x r00).name, u.kept.dropLast⟩) [] rfl ?_ (way_undo hw hx hd) (by show L.length - (x + 1) < L.length - x; omega)
              ((repeat' (first | exact AllP.nil | with_reducible refine AllP.cons ?_ ?_)) <;> first | exact rfl | exact trivial | exact Int.natCast_add_one _ | exact ⟨rfl, rfl⟩ | exact ⟨rfl, rfl, rfl⟩ | exact ⟨rfl, rfl, rfl, rfl⟩ | exact ⟨rfl, .inl rfl⟩ | exact ⟨rfl, .inr rfl⟩ | exact pur | (intro _; exact rfl) | (intro _; exact trivial) | (intro _; exact pur) | (intro _ _; exact rfl) | exact pur_val _ | exact pur_act _ _ | exact ⟨rfl, rfl, rfl, hl2.symm⟩ | exact ⟨rfl, rfl, rfl, by simp [EV.len, EV.sub]; done⟩ | (refine ⟨rfl, rfl, rfl, ?_⟩; simp [EV.len, EV.sub]; omega))
            · have hd : undoS u (L.getD x r00) = some ⟨u.version, insV (delV u.vals (L.getD x r00).name) (u.kept.getD m v00), u.kept.dropLast⟩ := by rw [hd0]; unfold putV; rw [if_neg hn]
              have hsp := pundo_yes1 ver u.vals u.kept m (L.getD x r00) hw.rise (by omega) hh (by omega) (by omega) (hc.resolve_left hn) hr.name
              rw [← hm] at hsp
              refine Sat.mfM (hsp) rfl rfl ⟨_, Tryz.underlying111⟩ (fun v w => by rw [hk]; exact mundo2 v w) (by kernel_rfl) rfl rfl rfl (by (repeat' (first | exact AllP.nil | with_reducible refine AllP.cons ?_ ?_)) <;> (first | exact rfl | exact True.intro | exact pur_val _ | exact purX)) rfl ?_
              repeat' (first
                | ((with_reducible apply Sat.run (X := X64)); exact rfl; (first | exact True.intro | (exact phi) | skip)) | fail)
              refine Sat.reX (i := 51) (valE u.kept.dropLast) rfl rfl (by simp [EV.len]) rfl (fun y hy => by show valP _ = valP _; rw [hl3 y (by have : y < u.kept.dropLast.length := hy; omega)]) ?_
              refine Sat.back (x + 1, ⟨u.version, insV (delV u.vals (L.getD x r00).name) (u.kept.getD m v00), u.kept.dropLast⟩) [(50, some 5)] rfl ?_ (way_undo hw hx hd) (by show L.length - (x + 1) < L.length - x; omega)
              ((repeat' (first | exact AllP.nil | with_reducible refine AllP.cons ?_ ?_)) <;> first | exact rfl | exact trivial | exact Int.natCast_add_one _ | exact ⟨rfl, rfl⟩ | exact ⟨rfl, rfl, rfl⟩ | exact ⟨rfl, rfl, rfl, rfl⟩ | exact ⟨rfl, .inl rfl⟩ | exact ⟨rfl, .inr rfl⟩ | exact pur | (intro _; exact rfl) | (intro _; exact trivial) | (intro _; exact pur) | (intro _ _; exact rfl) | exact pur_val _ | exact pur_act _ _ | exact ⟨rfl, rfl, rfl, hl2.symm⟩ | exact ⟨rfl, rfl, rfl, by simp [EV.len, EV.sub]; done⟩ | (refine ⟨rfl, rfl, rfl, ?_⟩; simp [EV.len, EV.sub]; omega))
          · have hd : undoS u (L.getD x r00) = none := by unfold undoS popV; rw [if_neg (by omega), if_pos (by rw [hh, decide_eq_true k1]), hl1]; dsimp only; rw [if_neg hc]; rfl
            have hsp := pundo_no3 ver u.vals u.kept m (L.getD x r00) hw.rise (by omega) hh (by omega) (by omega) hc
            rw [← hm] at hsp
            refine Sat.mxM (hsp) rfl rfl ⟨_, Tryz.underlying111⟩ (fun v w => by rw [hk]; exact mundo2 v w) (by kernel_rfl) rfl rfl (by (repeat' (first | exact AllP.nil | with_reducible refine AllP.cons ?_ ?_)) <;> (first | exact rfl | exact True.intro | exact pur_val _ | exact purX)) ?_
            exact SatP.fendD1 catch_ok (by kernel_rfl) rfl rfl rfl rfl True.intro rfl trivial
    · have hk : tidK (L.getD x r00).kind = 129 := by unfold tidK; rw [if_neg (by omega), if_neg (by omega)]
      cases hh : hasV u.vals (L.getD x r00).name with
      | true =>
        have hd : undoS u (L.getD x r00) = none := by unfold undoS; rw [if_neg (by omega), if_neg (by rw [hh, decide_eq_false (show ¬ (L.getD x r00).kind = 2 by omega)]; simp)]
        refine Sat.mxM (dundo_no1 ver u.vals u.kept u.kept.length (L.getD x r00) hw.rise (by omega) hh) rfl rfl ⟨_, Tryz.underlying111⟩ (fun v w => by rw [hk]; exact mundo3 v w) (by kernel_rfl) rfl rfl (by (repeat' (first | exact AllP.nil | with_reducible refine AllP.cons ?_ ?_)) <;> (first | exact rfl | exact True.intro | exact pur_val _ | exact purX)) ?_
        exact SatP.fendD1 catch_ok (by kernel_rfl) rfl rfl rfl rfl True.intro rfl trivial
      | false =>
        rcases Nat.eq_zero_or_pos u.kept.length with hm | hm0
        · skip
          have hnil : u.kept = [] := List.eq_nil_of_length_eq_zero hm
          have hd : undoS u (L.getD x r00) = none := by unfold undoS; rw [if_neg (by omega), if_pos (by rw [hh, decide_eq_false (show ¬ (L.getD x r00).kind = 2 by omega)]), hnil]; rfl
          have hsp : ∀ m, m = 0 → MX Tryz.prog [] 165 [0, 1, 2] [.agg (ruleP (L.getD x r00)), .ptr 0 0] [(0, stC ver 1 u.vals.length 2 m), (1, .row 53 (valE u.vals)), (2, .row 53 (valE u.kept))] 131 := fun m hm => by subst hm; exact dundo_no2 ver u.vals u.kept (L.getD x r00) hw.rise (by omega) hh
          have hsp := hsp _ hm
          refine Sat.mxM (hsp) rfl rfl ⟨_, Tryz.underlying111⟩ (fun v w => by rw [hk]; exact mundo3 v w) (by kernel_rfl) rfl rfl (by (repeat' (first | exact AllP.nil | with_reducible refine AllP.cons ?_ ?_)) <;> (first | exact rfl | exact True.intro | exact pur_val _ | exact purX)) ?_
          exact SatP.fendD1 catch_ok (by kernel_rfl) rfl rfl rfl rfl True.intro rfl trivial
        · obtain ⟨m, hm⟩ : ∃ m, u.kept.length = m + 1 := ⟨u.kept.length - 1, by omega⟩
          obtain ⟨hl1, hl2, hl3⟩ := last_of u.kept m hm
          by_cases hc : (u.kept.getD m v00).name = [] ∨ (u.kept.getD m v00).name = (L.getD x r00).name
          · have hd0 : undoS u (L.getD x r00) = some ⟨u.version, putV (delV u.vals (L.getD x r00).name) (u.kept.getD m v00), u.kept.dropLast⟩ := by unfold undoS popV; rw [if_neg (by omega), if_pos (by rw [hh, decide_eq_false (show ¬ (L.getD x r00).kind = 2 by omega)]), hl1]; dsimp only; rw [if_pos hc]; rfl
            by_cases hn : (u.kept.getD m v00).name = []
            · have hd : undoS u (L.getD x r00) = some ⟨u.version, u.vals, u.kept.dropLast⟩ := by rw [hd0]; unfold putV; rw [if_pos hn]; rw [delV_no _ _ hh]
              have hsp := dundo_yes0 ver u.vals u.kept m (L.getD x r00) hw.rise (by omega) hh (by omega) (by omega) hn
              rw [← hm] at hsp
              refine Sat.mfM (hsp) rfl rfl ⟨_, Tryz.underlying111⟩ (fun v w => by rw [hk]; exact mundo3 v w) (by kernel_rfl) rfl rfl rfl (by (repeat' (first | exact AllP.nil | with_reducible refine AllP.cons ?_ ?_)) <;> (first | exact rfl | exact True.intro | exact pur_val _ | exact purX)) rfl ?_
              repeat' (first
                | ((with_reducible apply Sat.run (X := X64)); exact rfl; (first | exact True.intro | (exact phi) | skip)) | fail)
              refine Sat.reX (i := 51) (valE u.kept.dropLast) rfl rfl (by simp [EV.len]) rfl (fun y hy => by show valP _ = valP _; rw [hl3 y (by have : y < u.kept.dropLast.length := hy; omega)]) ?_
              refine Sat.back (x + 1, ⟨u.version, u.vals, u.kept.dropLast⟩) [] rfl ?_ (way_undo hw hx hd) (by show L.length - (x + 1) < L.length - x; omega)
              ((repeat' (first | exact AllP.nil | with_reducible refine AllP.cons ?_ ?_)) <;> first | exact rfl | exact trivial | exact Int.natCast_add_one _ | exact ⟨rfl, rfl⟩ | exact ⟨rfl, rfl, rfl⟩ | exact ⟨rfl, rfl, rfl, rfl⟩ | exact ⟨rfl, .inl rfl⟩ | exact ⟨rfl, .inr rfl⟩ | exact pur | (intro _; exact rfl) | (intro _; exact trivial) | (intro _; exact pur) | (intro _ _; exact rfl) | exact pur_val _ | exact pur_act _ _ | exact ⟨rfl, rfl, rfl, hl2.symm⟩ | exact ⟨rfl, rfl, rfl, by simp [EV.len, EV.sub]; done⟩ | (refine ⟨rfl, rfl, rfl, ?_⟩; simp [EV.len, EV.sub]; omega))
            · have hd : undoS u (L.getD x r00) = some ⟨u.version, insV u.vals (u.kept.getD m v00), u.kept.dropLast⟩ := by rw [hd0]; unfold putV; rw [if_neg hn]; rw [delV_no _ _ hh]
              have hsp := dundo_yes1 ver u.vals u.kept m (L.getD x r00) hw.rise (by omega) hh (by omega) (by omega) (hc.resolve_left hn) hr.name
              rw [← hm] at hsp
              refine Sat.mfM (hsp) rfl rfl ⟨_, Tryz.underlying111⟩ (fun v w => by rw [hk]; exact mundo3 v w) (by kernel_rfl) rfl rfl rfl (by (repeat' (first | exact AllP.nil | with_reducible refine AllP.cons ?_ ?_)) <;> (first | exact rfl | exact True.intro | exact pur_val _ | exact purX)) rfl ?_
              repeat' (first
                | ((with_reducible apply Sat.run (X := X64)); exact rfl; (first | exact True.intro | (exact phi) | skip)) | fail)
              refine Sat.reX (i := 51) (valE u.kept.dropLast) rfl rfl (by simp [EV.len]) rfl (fun y hy => by show valP _ = valP _; rw [hl3 y (by have : y < u.kept.dropLast.length := hy; omega)]) ?_
              refine Sat.back (x + 1, ⟨u.version, insV u.vals (u.kept.getD m v00), u.kept.dropLast⟩) [(50, some 5)] rfl ?_ (way_undo hw hx hd) (by show L.length - (x + 1) < L.length - x; omega)
              ((repeat' (first | exact AllP.nil | with_reducible refine AllP.cons ?_ ?_)) <;> first | exact rfl | exact trivial | exact Int.natCast_add_one _ | exact ⟨rfl, rfl⟩ | exact ⟨rfl, rfl, rfl⟩ | exact ⟨rfl, rfl, rfl, rfl⟩ | exact ⟨rfl, .inl rfl⟩ | exact ⟨rfl, .inr rfl⟩ | exact pur | (intro _; exact rfl) | (intro _; exact trivial) | (intro _; exact pur) | (intro _ _; exact rfl) | exact pur_val _ | exact pur_act _ _ | exact ⟨rfl, rfl, rfl, hl2.symm⟩ | exact ⟨rfl, rfl, rfl, by simp [EV.len, EV.sub]; done⟩ | (refine ⟨rfl, rfl, rfl, ?_⟩; simp [EV.len, EV.sub]; omega))
          · have hd : undoS u (L.getD x r00) = none := by unfold undoS popV; rw [if_neg (by omega), if_pos (by rw [hh, decide_eq_false (show ¬ (L.getD x r00).kind = 2 by omega)]), hl1]; dsimp only; rw [if_neg hc]; rfl
            have hsp := dundo_no3 ver u.vals u.kept m (L.getD x r00) hw.rise (by omega) hh (by omega) (by omega) hc
            rw [← hm] at hsp
            refine Sat.mxM (hsp) rfl rfl ⟨_, Tryz.underlying111⟩ (fun v w => by rw [hk]; exact mundo3 v w) (by kernel_rfl) rfl rfl (by (repeat' (first | exact AllP.nil | with_reducible refine AllP.cons ?_ ?_)) <;> (first | exact rfl | exact True.intro | exact pur_val _ | exact purX)) ?_
            exact SatP.fendD1 catch_ok (by kernel_rfl) rfl rfl rfl rfl True.intro rfl trivial
  · have hxl : x = L.length := by have := hw.le; omega
    exfalso
    have := hw.run
    rw [hxl, List.take_length, hrun] at this
    cases this
end Go.Proofs.YtpbgihhfcdggkaaGreatDoor
end
section
namespace Go.Proofs.YtpbgihhfcdggkaaGreatDoor
open Go.RowKit V
set_option maxRecDepth 100000
set_option maxHeartbeats 4000000
set_option linter.unusedSimpArgs false
set_option linter.unusedVariables false
attribute [local irreducible] V.Sat V.DSat V.SatP V.ASat V.AOp
structure Raw where
  ver : Int
  vals : List (Int × Int)
  kept : List (Int × Int)
def PairOk (p : Int × Int) : Prop := (0 ≤ p.1 ∧ p.1 < 256) ∧ (0 ≤ p.2 ∧ p.2 < 256)
structure RawOk (x : Raw) : Prop where
  ver : 0 ≤ x.ver ∧ x.ver < 65536
  vals : ∀ p ∈ x.vals, PairOk p
  kept : ∀ p ∈ x.kept, PairOk p
@[reducible] def pairE (L : List (Int × Int)) : EV := .g L.length 2 fun i => [.int .u8 (L.getD i (0, 0)).1, .int .u8 (L.getD i (0, 0)).2]
@[reducible] def Raw.v (x : Raw) : SV := .agg [.int .u16 x.ver, .ro (pairE x.vals), .ro (pairE x.kept)]
def stepM (l : List ValL) (p : Int × Int) : List ValL := if hasV l (callN p.1) = true then l else insV l (valN p.1 p.2)
def madeV (L : List (Int × Int)) (x : Nat) : List ValL := (L.take x).foldl stepM []
def kepN (p : Int × Int) : ValL := if p.2.tmod 5 = 4 then val0 else valN p.1 p.2
def madeS (x : Raw) : SetL := ⟨x.ver % 60001, madeV x.vals (min 8 x.vals.length), (x.kept.take (min 4 x.kept.length)).map kepN⟩
theorem pair_at (L : List (Int × Int)) (h : ∀ p ∈ L, PairOk p) (i : Nat) : PairOk (L.getD i (0, 0)) := by
  rw [List.getD_eq_getElem?_getD]
  cases hi : L[i]? with
  | none => exact ⟨⟨by decide, by decide⟩, ⟨by decide, by decide⟩⟩
  | some q => exact h q (List.mem_of_getElem? hi)
theorem madeV_at (L : List (Int × Int)) (x : Nat) (hx : x < L.length) : madeV L (x + 1) = stepM (madeV L x) (L.getD x (0, 0)) := by
  have e : L.take (x + 1) = L.take x ++ [L.getD x (0, 0)] := by
    rw [List.take_add_one, List.getD_eq_getElem?_getD, List.getElem?_eq_getElem hx]
    rfl
  unfold madeV
  rw [e, List.foldl_append]
  rfl
structure MadeOk (l : List ValL) : Prop where
  rise : Rising l
  right : ∀ v ∈ l, rightV v = true
  names : ∀ v ∈ l, v.name ∈ callT
theorem stepM_ok {l : List ValL} (h : MadeOk l) (p : Int × Int) (hp : PairOk p) : MadeOk (stepM l p) ∧ (stepM l p).length ≤ l.length + 1 := by
  unfold stepM
  split
  · exact ⟨h, Nat.le_succ _⟩
  · rename_i hn
    have hv := val_ok p.1 p.2 hp.1.1 hp.2.1
    have hc := (call_ok p.1 hp.1.1).2
    refine ⟨⟨rising_ins h.rise _ (by show hasV l (callN p.1) = false; simpa using hn), fun v hm => ?_, fun v hm => ?_⟩, by rw [insV_len]; exact Nat.le_refl _⟩
    · rcases (insV_mem _ _ _).1 hm with rfl | hm
      · exact hv
      · exact h.right v hm
    · rcases (insV_mem _ _ _).1 hm with rfl | hm
      · exact hc
      · exact h.names v hm
theorem madeV_ok (L : List (Int × Int)) (h : ∀ p ∈ L, PairOk p) : ∀ x, x ≤ L.length → MadeOk (madeV L x) ∧ (madeV L x).length ≤ x
  | 0, _ => by
    have e : madeV L 0 = [] := rfl
    rw [e]
    exact ⟨⟨List.Pairwise.nil, (fun v hv => absurd hv (List.not_mem_nil)), (fun v hv => absurd hv (List.not_mem_nil))⟩, Nat.le_refl _⟩
  | x + 1, hx => by
    obtain ⟨h1, h2⟩ := madeV_ok L h x (by omega)
    obtain ⟨h3, h4⟩ := stepM_ok h1 (L.getD x (0, 0)) (pair_at L h x)
    rw [madeV_at L x hx]
    exact ⟨h3, by omega⟩
theorem made_ok (x : Raw) (h : RawOk x) : ValidS (madeS x) ∧ (madeS x).vals.length ≤ 8 ∧ (madeS x).kept.length ≤ 4 ∧ ∀ v ∈ (madeS x).vals, v.name ∈ callT := by
  obtain ⟨h1, h2⟩ := madeV_ok x.vals h.vals (min 8 x.vals.length) (Nat.min_le_right _ _)
  have t1 : 0 ≤ x.ver % 60001 := Int.emod_nonneg _ (by decide)
  have t2 : x.ver % 60001 < 60001 := Int.emod_lt_of_pos _ (by decide)
  have hk : (madeS x).kept.length ≤ 4 := by simp [madeS]; omega
  have hv : (madeS x).vals.length ≤ 8 := by show (madeV _ _).length ≤ 8; omega
  refine ⟨⟨⟨t1, by show x.ver % 60001 ≤ 60000; omega⟩, ⟨by omega, by omega⟩, h1.rise, h1.right, fun v hm => ?_⟩, hv, hk, h1.names⟩
  obtain ⟨p, hp, rfl⟩ := List.mem_map.1 hm
  have hpk := h.kept p (List.mem_of_mem_take hp)
  unfold kepN
  split
  · exact .inl rfl
  · exact .inr (val_ok _ _ hpk.1.1 hpk.2.1)
theorem pur_pair (L : List (Int × Int)) : pureE (pairE L) := fun _ _ => by simp [pureL, pureS, pureE]
theorem pur_kep (L : List (Int × Int)) (n : Nat) : pureE (.g n 2 fun i => valP (kepN (L.getD i (0, 0)))) := fun _ _ => by simp [pureL, pureS, pureE]
theorem app_k (L : List (Int × Int)) (x : Nat) (v : ValL) (hv : kepN (L.getD (x : Int).toNat (0, 0)) = v) : ∀ i, i < x + 1 → valP (kepN (L.getD i (0, 0))) = if i < x then valP (kepN (L.getD i (0, 0))) else nthL [valP v] (0 + (i - x)) := by
  intro i hi
  split
  · rfl
  · obtain rfl : i = x := by omega
    rw [Nat.sub_self, ← hv, Int.toNat_natCast]
    rfl
theorem kept_conv {M : Mem} {s : SV} (L : List (Int × Int)) (i : Nat) (hi : i = min 4 L.length) (hs : Conv M s (.ro (.g i 2 fun j => valP (kepN (L.getD j (0, 0)))))) : Conv M s (.ro (valE ((L.take (min 4 L.length)).map kepN))) := by
  have hl : ((L.take (min 4 L.length)).map kepN).length = i := by simp; omega
  refine .gx _ _ _ _ _ (.eq _ _ _ hs (by rw [hl])) fun j hj => ?_
  rw [List.getD_eq_getElem?_getD, List.getD_eq_getElem?_getD, List.getElem?_map, List.getElem?_take, if_pos (by omega), List.getElem?_eq_getElem (by omega)]
  rfl
theorem made_spec (x : Raw) (hx : RawOk x) : Fun Tryz.prog [] 12 [x.v] (madeS x).v := by
  have hp1 := pur_pair x.vals
  have hp2 := pur_pair x.kept
  have t0 := hx.ver
  refine Fun.mk 7 Tryz.func12 rfl Tryz.ntmps12 rfl rfl fun T w0 => ?_
  repeat' (first
    | ((with_reducible apply Sat.run (X := X64)); exact rfl; (first | exact True.intro | (exact phi) | skip)) | fail)
  apply Sat.loop (α := Nat) (fun i => i ≤ min 8 x.vals.length) (fun i => 8 - i) 0 (fun i => [(4, .int .i64 (i : Int))]) (fun i => [(2, .cells 32 [.int .i64 (x.ver % 60001), .ro (valE (madeV x.vals i)), .nils])]) [] [] 0
  · intro x; exact rfl
  · intro x; exact rfl
  · exact rfl
  · exact rfl
  · ((repeat' (first | exact AllP.nil | with_reducible refine AllP.cons ?_ ?_)) <;> first | exact rfl | exact trivial | exact Int.natCast_add_one _ | exact ⟨rfl, rfl⟩ | exact ⟨rfl, rfl, rfl⟩ | exact ⟨rfl, rfl, rfl, rfl⟩ | exact ⟨rfl, .inl rfl⟩ | exact ⟨rfl, .inr rfl⟩ | exact pur | (intro _; exact rfl) | (intro _; exact trivial) | (intro _; exact pur) | first | exact pur_val _ | exact hp1 | exact hp2 | (intro _ _; simp [pureL, pureS, pureE]; done))
  · exact Nat.zero_le _
  · intro i hi0
    have hpv := pur_val (madeV x.vals i)
    by_cases hi : i < 8 ∧ i < x.vals.length
    · have hc : (bif decide ((i : Int) < ((pairE x.vals).len : Int)) then decide ((i : Int) < 8) else false) = true := by
        rw [decide_eq_true (show (i : Int) < ((pairE x.vals).len : Int) by show (i : Int) < (x.vals.length : Int); omega), decide_eq_true (show (i : Int) < 8 by omega)]
        rfl
      obtain ⟨⟨a0, a1⟩, ⟨b0, b1⟩⟩ := pair_at x.vals hx.vals (i : Int).toNat
      obtain ⟨m1, m2⟩ := madeV_ok x.vals hx.vals i (by omega)
      have h1 := value_spec _ _ a0 a1 b0 b1
      have h2 := find_spec (madeV x.vals i) (callN (x.vals.getD (i : Int).toNat (0, 0)).1)
      have hstep := madeV_at x.vals i hi.2
      have hfd : decide ((0 : Int) ≤ idxL (fun v => decide (v.name = callN (x.vals.getD (i : Int).toNat (0, 0)).1)) (madeV x.vals i) 0) = hasV (madeV x.vals i) (callN (x.vals.getD (i : Int).toNat (0, 0)).1) := idxL_any _ _ 0
      by_cases hm : hasV (madeV x.vals i) (callN (x.vals.getD (i : Int).toNat (0, 0)).1) = true
      · have hcc : decide (idxL (fun v => decide (v.name = callN (x.vals.getD (i : Int).toNat (0, 0)).1)) (madeV x.vals i) 0 < 0) = false := by
          rw [hm, decide_eq_true_eq] at hfd
          exact decide_eq_false (by omega)
        repeat' (first
          | (rw [hcc])
          | (rw [hc])
          | ((with_reducible apply Sat.run (X := X64)); exact rfl; (first | exact True.intro | (exact phi) | skip))
          | ((with_reducible apply Sat.cond_t); exact rfl)
          | ((with_reducible apply Sat.cond_f); exact rfl)
          | ((with_reducible apply Sat.callR (h1)); exact rfl; exact rfl; exact rfl; kernel_rfl; (exact cnvX); exact rfl)
          | ((with_reducible apply Sat.callR (h2)); exact rfl; exact rfl; exact rfl; kernel_rfl; (exact cnvX); exact rfl) | fail)
        have hst : madeV x.vals i = madeV x.vals (i + 1) := by rw [hstep]; unfold stepM; rw [if_pos (by rw [Int.toNat_natCast] at hm; exact hm)]
        refine Sat.back (i + 1) [] rfl ?_ (by omega) (by omega)
        ((repeat' (first | exact AllP.nil | with_reducible refine AllP.cons ?_ ?_)) <;> first | exact rfl | exact trivial | exact Int.natCast_add_one _ | exact ⟨rfl, rfl⟩ | exact ⟨rfl, rfl, rfl⟩ | exact ⟨rfl, rfl, rfl, rfl⟩ | exact ⟨rfl, .inl rfl⟩ | exact ⟨rfl, .inr rfl⟩ | exact pur | (intro _; exact rfl) | (intro _; exact trivial) | (intro _; exact pur) | first | exact pur_val _ | exact hp1 | exact hp2 | exact pur_kep _ _ | exact congrArg valE hst | (intro _ _; simp [pureL, pureS, pureE]; done))
      · have hcc : decide (idxL (fun v => decide (v.name = callN (x.vals.getD (i : Int).toNat (0, 0)).1)) (madeV x.vals i) 0 < 0) = true := by
          have hm' : hasV (madeV x.vals i) (callN (x.vals.getD (i : Int).toNat (0, 0)).1) = false := by simpa using hm
          rw [hm', decide_eq_false_iff_not] at hfd
          exact decide_eq_true (by omega)
        have h3 := Into_yes (madeV x.vals i) (valN (x.vals.getD (i : Int).toNat (0, 0)).1 (x.vals.getD (i : Int).toNat (0, 0)).2) (nmB_ne (call_ok _ a0).1) (by omega)
        repeat' (first
          | (rw [hcc])
          | (rw [hc])
          | ((with_reducible apply Sat.run (X := X64)); exact rfl; (first | exact True.intro | (exact phi) | skip))
          | ((with_reducible apply Sat.cond_t); exact rfl)
          | ((with_reducible apply Sat.callR (h1)); exact rfl; exact rfl; exact rfl; kernel_rfl; (exact cnvX); exact rfl)
          | ((with_reducible apply Sat.callR (h2)); exact rfl; exact rfl; exact rfl; kernel_rfl; (exact cnvX); exact rfl)
          | ((with_reducible apply Sat.call (h3)); exact rfl; exact rfl; kernel_rfl; (exact cnvX); exact rfl) | fail)
        have hst : insV (madeV x.vals i) (valN (x.vals.getD (i : Int).toNat (0, 0)).1 (x.vals.getD (i : Int).toNat (0, 0)).2) = madeV x.vals (i + 1) := by rw [hstep]; unfold stepM; rw [if_neg (by rw [Int.toNat_natCast] at hm; exact hm), Int.toNat_natCast]
        refine Sat.back (i + 1) [] rfl ?_ (by omega) (by omega)
        ((repeat' (first | exact AllP.nil | with_reducible refine AllP.cons ?_ ?_)) <;> first | exact rfl | exact trivial | exact Int.natCast_add_one _ | exact ⟨rfl, rfl⟩ | exact ⟨rfl, rfl, rfl⟩ | exact ⟨rfl, rfl, rfl, rfl⟩ | exact ⟨rfl, .inl rfl⟩ | exact ⟨rfl, .inr rfl⟩ | exact pur | (intro _; exact rfl) | (intro _; exact trivial) | (intro _; exact pur) | first | exact pur_val _ | exact hp1 | exact hp2 | exact pur_kep _ _ | exact congrArg valE hst | (intro _ _; simp [pureL, pureS, pureE]; done))
    · have hi8 : i = min 8 x.vals.length := by omega
      have hc : (bif decide ((i : Int) < ((pairE x.vals).len : Int)) then decide ((i : Int) < 8) else false) = false := by
        by_cases q : i < x.vals.length
        · rw [decide_eq_true (show (i : Int) < ((pairE x.vals).len : Int) by show (i : Int) < (x.vals.length : Int); omega), decide_eq_false (show ¬ (i : Int) < 8 by omega)]
          rfl
        · rw [decide_eq_false (show ¬ (i : Int) < ((pairE x.vals).len : Int) by show ¬ (i : Int) < (x.vals.length : Int); omega)]
          rfl
      repeat' (first
        | (rw [hc])
        | ((with_reducible apply Sat.run (X := X64)); exact rfl; (first | exact True.intro | (exact phi) | skip))
        | ((with_reducible apply Sat.cond_f); exact rfl) | fail)
      clear hc hi0 hi
      subst hi8
      apply Sat.loop (α := Nat) (fun i => i ≤ min 4 x.kept.length) (fun i => 4 - i) 0 (fun i => [(6, .int .i64 (i : Int))]) (fun i => [(2, .cells 32 [.int .i64 (x.ver % 60001), .ro (valE (madeV x.vals (min 8 x.vals.length))), .row 3 0 2 0 i]), (3, .row 53 (.g i 2 fun j => valP (kepN (x.kept.getD j (0, 0)))))]) [] [(3, none)] 1
      · intro x; exact rfl
      · intro x; exact rfl
      · exact rfl
      · exact rfl
      · ((repeat' (first | exact AllP.nil | with_reducible refine AllP.cons ?_ ?_)) <;> first | exact rfl | exact trivial | exact Int.natCast_add_one _ | exact ⟨rfl, rfl⟩ | exact ⟨rfl, rfl, rfl⟩ | exact ⟨rfl, rfl, rfl, rfl⟩ | exact ⟨rfl, .inl rfl⟩ | exact ⟨rfl, .inr rfl⟩ | exact pur | (intro _; exact rfl) | (intro _; exact trivial) | (intro _; exact pur) | first | exact pur_val _ | exact hp1 | exact hp2 | exact pur_kep _ _ | (intro _ _; simp [pureL, pureS, pureE]; done))
      · exact Nat.zero_le _
      · intro i hi0
        by_cases hi : i < 4 ∧ i < x.kept.length
        · have hc : (bif decide ((i : Int) < ((pairE x.kept).len : Int)) then decide ((i : Int) < 4) else false) = true := by
            rw [decide_eq_true (show (i : Int) < ((pairE x.kept).len : Int) by show (i : Int) < (x.kept.length : Int); omega), decide_eq_true (show (i : Int) < 4 by omega)]
            rfl
          obtain ⟨⟨a0, a1⟩, ⟨b0, b1⟩⟩ := pair_at x.kept hx.kept (i : Int).toNat
          have h1 := value_spec _ _ a0 a1 b0 b1
          obtain ⟨u1, u2⟩ := tm _ b0 5 (by decide)
          repeat' (first
            | (rw [hc])
            | ((with_reducible apply Sat.run (X := X64)); exact rfl; (first | exact True.intro | (exact phi) | skip))
            | ((with_reducible apply Sat.cond_t); exact rfl)
            | ((with_reducible apply Sat.cond_p); exact rfl; all_goals intro h)
            | ((with_reducible apply Sat.callR (h1)); exact rfl; exact rfl; exact rfl; kernel_rfl; (exact cnvX); exact rfl) | fail)
          · have hv : kepN (x.kept.getD (i : Int).toNat (0, 0)) = val0 := if_pos h
            refine Sat.reX (i := 6) (.g (i + 1) 2 fun j => valP (kepN (x.kept.getD j (0, 0)))) rfl rfl (Nat.le_refl _) rfl (fun j hj => app_k x.kept i _ hv j hj) ?_
            refine Sat.back (i + 1) [(3, some 6)] rfl ?_ (by omega) (by omega)
            ((repeat' (first | exact AllP.nil | with_reducible refine AllP.cons ?_ ?_)) <;> first | exact rfl | exact trivial | exact Int.natCast_add_one _ | exact ⟨rfl, rfl⟩ | exact ⟨rfl, rfl, rfl⟩ | exact ⟨rfl, rfl, rfl, rfl⟩ | exact ⟨rfl, .inl rfl⟩ | exact ⟨rfl, .inr rfl⟩ | exact pur | (intro _; exact rfl) | (intro _; exact trivial) | (intro _; exact pur) | first | exact pur_val _ | exact hp1 | exact hp2 | exact pur_kep _ _ | (intro _ _; simp [pureL, pureS, pureE]; done))
          · have hv : kepN (x.kept.getD (i : Int).toNat (0, 0)) = valN (x.kept.getD (i : Int).toNat (0, 0)).1 (x.kept.getD (i : Int).toNat (0, 0)).2 := if_neg h
            refine Sat.reX (i := 6) (.g (i + 1) 2 fun j => valP (kepN (x.kept.getD j (0, 0)))) rfl rfl (Nat.le_refl _) rfl (fun j hj => app_k x.kept i _ hv j hj) ?_
            refine Sat.back (i + 1) [(3, some 6)] rfl ?_ (by omega) (by omega)
            ((repeat' (first | exact AllP.nil | with_reducible refine AllP.cons ?_ ?_)) <;> first | exact rfl | exact trivial | exact Int.natCast_add_one _ | exact ⟨rfl, rfl⟩ | exact ⟨rfl, rfl, rfl⟩ | exact ⟨rfl, rfl, rfl, rfl⟩ | exact ⟨rfl, .inl rfl⟩ | exact ⟨rfl, .inr rfl⟩ | exact pur | (intro _; exact rfl) | (intro _; exact trivial) | (intro _; exact pur) | first | exact pur_val _ | exact hp1 | exact hp2 | exact pur_kep _ _ | (intro _ _; simp [pureL, pureS, pureE]; done))
        · have hi4 : i = min 4 x.kept.length := by omega
          have hc : (bif decide ((i : Int) < ((pairE x.kept).len : Int)) then decide ((i : Int) < 4) else false) = false := by
            by_cases q : i < x.kept.length
            · rw [decide_eq_true (show (i : Int) < ((pairE x.kept).len : Int) by show (i : Int) < (x.kept.length : Int); omega), decide_eq_false (show ¬ (i : Int) < 4 by omega)]
              rfl
            · rw [decide_eq_false (show ¬ (i : Int) < ((pairE x.kept).len : Int) by show ¬ (i : Int) < (x.kept.length : Int); omega)]
              rfl
          repeat' (first
            | (rw [hc])
            | ((with_reducible apply Sat.run (X := X64)); exact rfl; (first | exact True.intro | (exact phi) | skip))
            | ((with_reducible apply Sat.cond_f); exact rfl) | fail)
          refine Sat.fin (Sat.end1 rfl rfl rfl True.intro (.agg _ _ (.cons _ _ _ _ (.refl _ trivial) (.cons _ _ _ _ (.refl _ (by simp [pureS, pureL, pureE])) (.cons _ _ _ _ (kept_conv x.kept i hi4 (.all 3 0 2 i _ rfl rfl rfl (pur_kep _ _))) .nil)))) (.inl rfl) (fun _ h => h)) rfl
def fitS : SetL → List Quad → List RuleL
  | _, [] => []
  | s, q :: L => match doS s (ruleN q) with
    | some t => ruleN q :: fitS t L
    | none => fitS s L
def fitN (s : SetL) (L : List Quad) (n : Nat) : List RuleL := fitS s (L.take n)
theorem do_rise {s t : SetL} (h : Rising s.vals) (r : RuleL) (hd : doS s r = some t) : Rising t.vals := by
  unfold doS at hd
  split at hd
  · obtain ⟨l, h1, rfl⟩ := Option.map_eq_some_iff.1 hd
    exact (mov_way h _ _ h1).1
  · split at hd
    · cases hd
      exact rising_ins (rising_del h _) _ (del_no _ _)
    · cases hd
      exact rising_del h _
theorem fitS_run : ∀ (L : List Quad) (s : SetL), ∃ t, runL doS s (fitS s L) = some t
  | [], s => ⟨s, rfl⟩
  | q :: L, s => by
    rw [fitS]
    cases hd : doS s (ruleN q) with
    | none => exact fitS_run L s
    | some t =>
      obtain ⟨u, hu⟩ := fitS_run L t
      refine ⟨u, ?_⟩
      dsimp only
      rw [runL, hd]
      exact hu
theorem fitS_mem : ∀ (L : List Quad) (s : SetL) (r : RuleL), r ∈ fitS s L → ∃ q ∈ L, r = ruleN q
  | [], _, _, h => by cases h
  | q :: L, s, r, h => by
    rw [fitS] at h
    cases hd : doS s (ruleN q) with
    | none =>
      rw [hd] at h
      obtain ⟨p, hp, e⟩ := fitS_mem L s r h
      exact ⟨p, List.mem_cons_of_mem _ hp, e⟩
    | some t =>
      rw [hd] at h
      rcases List.mem_cons.1 h with rfl | h
      · exact ⟨q, List.mem_cons_self .., rfl⟩
      · obtain ⟨p, hp, e⟩ := fitS_mem L t r h
        exact ⟨p, List.mem_cons_of_mem _ hp, e⟩
theorem fitS_len : ∀ (L : List Quad) (s : SetL), (fitS s L).length ≤ L.length
  | [], _ => Nat.le_refl _
  | q :: L, s => by
    rw [fitS]
    cases doS s (ruleN q) with
    | none => exact Nat.le_succ_of_le (fitS_len L s)
    | some t => exact Nat.succ_le_succ (fitS_len L t)
structure FitAt (s : SetL) (L : List Quad) (x : Nat) (t : SetL) (O : List RuleL) : Prop where
  le : x ≤ L.length
  run : O ++ fitS t (L.drop x) = fitS s L
  rise : Rising t.vals
  nv : t.vals.length ≤ 16 + x
  nk : t.kept.length ≤ 16 + x
  no : O.length ≤ x
theorem FitAt.some {s t t' : SetL} {L : List Quad} {x : Nat} {O : List RuleL} (h : FitAt s L x t O) (hx : x < L.length) (hd : doS t (ruleN (L.getD x q00)) = some t') : FitAt s L (x + 1) t' (O ++ [ruleN (L.getD x q00)]) := by
  obtain ⟨l1, l2, _⟩ := doS_len (ruleN (L.getD x q00)) hd
  have h1 := h.nv
  have h2 := h.nk
  have h3 := h.no
  have e : L.drop x = L.getD x q00 :: L.drop (x + 1) := by
    rw [List.getD_eq_getElem?_getD, List.getElem?_eq_getElem hx]
    exact (List.getElem_cons_drop hx).symm
  refine ⟨hx, ?_, do_rise h.rise _ hd, by omega, by omega, by rw [List.length_append]; show O.length + 1 ≤ _; omega⟩
  rw [← h.run, e, fitS, hd, List.append_assoc]
  rfl
theorem FitAt.none {s t : SetL} {L : List Quad} {x : Nat} {O : List RuleL} (h : FitAt s L x t O) (hx : x < L.length) (hd : doS t (ruleN (L.getD x q00)) = none) : FitAt s L (x + 1) t O := by
  have h1 := h.nv
  have h2 := h.nk
  have h3 := h.no
  have e : L.drop x = L.getD x q00 :: L.drop (x + 1) := by
    rw [List.getD_eq_getElem?_getD, List.getElem?_eq_getElem hx]
    exact (List.getElem_cons_drop hx).symm
  refine ⟨hx, ?_, h.rise, by omega, by omega, by omega⟩
  rw [← h.run, e, fitS, hd]
theorem app_rule (O : List RuleL) (r : RuleL) : ∀ i, i < O.length + 1 → ruleP ((O ++ [r]).getD i r00) = if i < O.length then ruleP (O.getD i r00) else nthL [ruleP r] (0 + (i - O.length)) := by
  intro i hi
  split
  · rename_i h
    rw [List.getD_eq_getElem?_getD, List.getD_eq_getElem?_getD, List.getElem?_append_left h]
  · rename_i h
    have e : i - O.length = 0 := by omega
    rw [e, List.getD_eq_getElem?_getD, List.getElem?_append_right (by omega), e]
    rfl
theorem fit_spec (s : SetL) (hr : Rising s.vals) (hv : s.vals.length ≤ 16) (hk : s.kept.length ≤ 16) (L : List Quad) (hL : ∀ q ∈ L, QuadOk q) (n : Nat) (hn : n ≤ 1000) : Fun Tryz.prog [] 14 [s.v, .ro (quadE L), .int .i64 (n : Int)] (.ro (ruleE (fitN s L n))) := by
  refine Fun.mk 7 Tryz.func14 rfl Tryz.ntmps14 rfl rfl fun T w0 => ?_
  have hpl : pureE (quadE L) := fun _ _ => by simp [pureL, pureS, pureE]
  repeat' (first
    | ((with_reducible apply Sat.run (X := X64)); exact rfl; (first | exact True.intro | (exact phi) | skip)) | fail)
  refine Sat.kill [11] rfl ?_
  apply Sat.loop (α := Nat × SetL × List RuleL) (fun x => x.1 ≤ n ∧ FitAt s (L.take n) x.1 x.2.1 x.2.2) (fun x => L.length - x.1) (0, s, []) (fun x => [(7, .row 1 0 4 0 x.2.2.length), (8, .int .i64 (x.1 : Int))]) (fun x => [(0, .cells 32 [.int .i64 x.2.1.version, .ro (valE x.2.1.vals), .ro (valE x.2.1.kept)]), (1, .row 28 (ruleE x.2.2))]) [] [] 0
  · intro x; exact rfl
  · intro x; exact rfl
  · exact rfl
  · exact rfl
  · ((repeat' (first | exact AllP.nil | with_reducible refine AllP.cons ?_ ?_)) <;> first | exact rfl | exact trivial | exact Int.natCast_add_one _ | exact ⟨rfl, rfl⟩ | exact ⟨rfl, rfl, rfl⟩ | exact ⟨rfl, rfl, rfl, rfl⟩ | exact ⟨rfl, .inl rfl⟩ | exact ⟨rfl, .inr rfl⟩ | exact pur | (intro _; exact rfl) | (intro _; exact trivial) | (intro _; exact pur) | first | exact hpl | exact pur_val _ | exact pur_rule _ | (intro i hi; exact absurd hi (Nat.not_lt_zero _)) | (intro _ _; simp [pureL, pureS, pureE]; done))
  · exact ⟨Nat.zero_le _, Nat.zero_le _, rfl, hr, hv, hk, Nat.le_refl _⟩
  · rintro ⟨x, t, O⟩ ⟨x1, hw⟩
    dsimp only at x1
    have hlen : (L.take n).length = min n L.length := List.length_take
    have hle : x ≤ (L.take n).length := hw.le
    have hno : O.length ≤ x := hw.no
    by_cases hx : x < n ∧ x < L.length
    · have hc : (bif decide ((x : Int) < ((EV.g L.length 4 fun i => quadP (L.getD i q00)).len : Int)) then decide ((x : Int) < (n : Int)) else false) = true := by
        rw [decide_eq_true (show (x : Int) < ((EV.g L.length 4 fun i => quadP (L.getD i q00)).len : Int) by show (x : Int) < (L.length : Int); omega), decide_eq_true (show (x : Int) < (n : Int) by omega)]
        rfl
      have hg : (L.take n).getD x q00 = L.getD (x : Int).toNat q00 := by
        rw [Int.toNat_natCast, List.getD_eq_getElem?_getD, List.getD_eq_getElem?_getD, List.getElem?_take, if_pos hx.1]
      have hqk := quad_at L hL (x : Int).toNat
      have h1 := rule_spec (L.getD (x : Int).toNat q00) hqk
      have hnv : t.vals.length ≤ 16 + x := hw.nv
      have hnk : t.kept.length ≤ 16 + x := hw.nk
      have h2 := rdo_spec t (ruleN (L.getD (x : Int).toNat q00)) hw.rise (by omega) (by omega) (rightR_ok (ruleN_ok _ hqk)).1
      cases hd : doS t (ruleN (L.getD (x : Int).toNat q00)) with
      | none =>
        rw [hd] at h2
        have hn := hw.none (by omega) (by rw [hg]; exact hd)
        repeat' (first
          | (rw [hc])
          | ((with_reducible apply Sat.run (X := X64)); exact rfl; (first | exact True.intro | (exact phi) | skip))
          | ((with_reducible apply Sat.drawn); kernel_rfl)
          | ((with_reducible apply DSat.run (X := X64)); exact rfl; (first | exact True.intro | (exact phi) | skip))
          | ((with_reducible apply DSat.fin); kernel_rfl)
          | ((with_reducible apply Sat.cond_t); exact rfl)
          | ((with_reducible apply Sat.cond_f); exact rfl)
          | ((with_reducible apply DSat.callR (h1)); exact rfl; exact rfl; exact rfl; kernel_rfl; (exact cnvX); exact rfl)
          | ((with_reducible apply DSat.call (h2)); exact rfl; exact rfl; kernel_rfl; (exact cnvX); exact rfl) | fail)
        refine Sat.back (x + 1, t, O) [] rfl ?_ ⟨hx.1, hn⟩ ?_
        · ((repeat' (first | exact AllP.nil | with_reducible refine AllP.cons ?_ ?_)) <;> first | exact rfl | exact trivial | exact Int.natCast_add_one _ | exact ⟨rfl, rfl⟩ | exact ⟨rfl, rfl, rfl⟩ | exact ⟨rfl, rfl, rfl, rfl⟩ | exact ⟨rfl, .inl rfl⟩ | exact ⟨rfl, .inr rfl⟩ | exact pur | (intro _; exact rfl) | (intro _; exact trivial) | (intro _; exact pur) | first | exact hpl | exact pur_val _ | exact pur_rule _ | (intro _ _; simp [pureL, pureS, pureE]; done) | exact ⟨rfl, rfl, rfl, (by simp [EV.len, EV.sub])⟩ | exact fun _ _ => rfl)
        · show L.length - (x + 1) < L.length - x
          omega
      | some t' =>
        rw [hd] at h2
        have hn : FitAt s (L.take n) (x + 1) t' (O ++ [ruleN (L.getD (x : Int).toNat q00)]) := by
          rw [← hg]
          exact hw.some (by omega) (by rw [hg]; exact hd)
        repeat' (first
          | (rw [hc])
          | ((with_reducible apply Sat.run (X := X64)); exact rfl; (first | exact True.intro | (exact phi) | skip))
          | ((with_reducible apply Sat.drawn); kernel_rfl)
          | ((with_reducible apply DSat.run (X := X64)); exact rfl; (first | exact True.intro | (exact phi) | skip))
          | ((with_reducible apply DSat.fin); kernel_rfl)
          | ((with_reducible apply Sat.cond_t); exact rfl)
          | ((with_reducible apply Sat.callR (h1)); exact rfl; exact rfl; exact rfl; kernel_rfl; (exact cnvX); exact rfl)
          | ((with_reducible apply DSat.callR (h1)); exact rfl; exact rfl; exact rfl; kernel_rfl; (exact cnvX); exact rfl)
          | ((with_reducible apply DSat.call (h2)); exact rfl; exact rfl; kernel_rfl; (exact cnvX); exact rfl) | fail)
        refine Sat.reX (i := 4) (ruleE (O ++ [ruleN (L.getD (x : Int).toNat q00)])) rfl rfl (by simp [EV.len, EV.sub]) rfl (fun i hi => app_rule O _ i (by simpa [EV.len] using hi)) ?_
        refine Sat.back (x + 1, t', O ++ [ruleN (L.getD (x : Int).toNat q00)]) [(1, some 4)] rfl ?_ ⟨hx.1, hn⟩ ?_
        · ((repeat' (first | exact AllP.nil | with_reducible refine AllP.cons ?_ ?_)) <;> first | exact rfl | exact trivial | exact Int.natCast_add_one _ | exact ⟨rfl, rfl⟩ | exact ⟨rfl, rfl, rfl⟩ | exact ⟨rfl, rfl, rfl, rfl⟩ | exact ⟨rfl, .inl rfl⟩ | exact ⟨rfl, .inr rfl⟩ | exact pur | (intro _; exact rfl) | (intro _; exact trivial) | (intro _; exact pur) | first | exact hpl | exact pur_val _ | exact pur_rule _ | (intro _ _; simp [pureL, pureS, pureE]; done) | exact ⟨rfl, rfl, rfl, (by simp [EV.len, EV.sub])⟩ | exact fun _ _ => rfl)
        · show L.length - (x + 1) < L.length - x
          omega
    · have hc : (bif decide ((x : Int) < ((EV.g L.length 4 fun i => quadP (L.getD i q00)).len : Int)) then decide ((x : Int) < (n : Int)) else false) = false := by
        by_cases q : x < L.length
        · rw [decide_eq_true (show (x : Int) < ((EV.g L.length 4 fun i => quadP (L.getD i q00)).len : Int) by show (x : Int) < (L.length : Int); omega), decide_eq_false (show ¬ (x : Int) < (n : Int) by omega)]
          rfl
        · rw [decide_eq_false (show ¬ (x : Int) < ((EV.g L.length 4 fun i => quadP (L.getD i q00)).len : Int) by show ¬ (x : Int) < (L.length : Int); omega)]
          rfl
      have hO : O = fitN s L n := by
        have h := hw.run
        dsimp only at h
        rw [List.drop_of_length_le (by omega), fitS, List.append_nil] at h
        exact h
      have hpo := pur_rule O
      repeat' (first
        | (rw [hc])
        | ((with_reducible apply Sat.run (X := X64)); exact rfl; (first | exact True.intro | (exact phi) | skip))
        | ((with_reducible apply Sat.cond_f); exact rfl) | fail)
      refine Sat.fin (Sat.end1 rfl rfl rfl True.intro (.all 1 0 4 O.length (ruleE O) rfl rfl rfl hpo) (.inl rfl) (fun _ h => h)) (by rw [hO])
end Go.Proofs.YtpbgihhfcdggkaaGreatDoor
end
section
namespace Go.Proofs.YtpbgihhfcdggkaaGreatDoor
open Go.RowKit V
set_option maxRecDepth 100000
set_option maxHeartbeats 4000000
set_option linter.unusedSimpArgs false
set_option linter.unusedVariables false
attribute [local irreducible] V.Sat V.DSat
theorem dig_cut (u : Nat) : List.take ((some ((u : Int) % 10 + 1).toNat).getD [48, 49, 50, 51, 52, 53, 54, 55, 56, 57].length - (some ((u : Int) % 10).toNat).getD 0) (List.drop ((some ((u : Int) % 10).toNat).getD 0) ([48, 49, 50, 51, 52, 53, 54, 55, 56, 57] : List UInt8)) = [UInt8.ofNat (48 + u % 10)] := by
  have h1 : (u : Int) % 10 = ((u % 10 : Nat) : Int) := by omega
  have h2 : u % 10 < 10 := Nat.mod_lt u (by decide)
  rw [h1]
  generalize u % 10 = d at h2
  match d, h2 with
  | 0, _ => rfl
  | 1, _ => rfl
  | 2, _ => rfl
  | 3, _ => rfl
  | 4, _ => rfl
  | 5, _ => rfl
  | 6, _ => rfl
  | 7, _ => rfl
  | 8, _ => rfl
  | 9, _ => rfl
theorem dec_spec : ∀ u : Nat, u ≤ 1000000 → Fun Tryz.prog [] 53 [.int .i64 (u : Int)] (.str (Lib.decDigits u)) := by
  refine dec_ind (fun u h hu => ?_) (fun u h ih hu => ?_)
  · have e1 : Int.tdiv (u : Int) 10 = 0 := by rw [Int.tdiv_eq_ediv_of_nonneg (by omega)]; omega
    refine Fun.mk 6 Tryz.func53 rfl Tryz.ntmps53 rfl rfl fun T w0 => ?_
    repeat' (first
      | ((with_reducible apply Sat.run (X := X64)); exact rfl; (first | exact True.intro | (exact phi) | skip))
      | ((with_reducible apply Sat.cond_f); exact rfl)
      | ((with_reducible apply Sat.cond_pf); exact rfl; (try dsimp only [V.EV.sub, V.EV.len]); first | assumption | omega) | fail)
    (refine Sat.fin (Sat.end1 rfl rfl rfl True.intro (.refl _ purX) (by first | exact .inl rfl | exact .inr rfl) (fun _ h => h)) ?_; (refine congrArg SV.str ?_; have e := dig_cut u; rw [Nat.mod_eq_of_lt h] at e; exact (dec_small h).trans e.symm))
  · have h1 := ih (by omega)
    have hl := dec_len 6 (u / 10) (by omega)
    refine Fun.mk 6 Tryz.func53 rfl Tryz.ntmps53 rfl rfl fun T w0 => ?_
    repeat' (first
      | ((with_reducible apply Sat.run (X := X64)); exact rfl; (first | exact True.intro | (exact phi) | skip))
      | ((with_reducible apply Sat.cond_f); exact rfl)
      | ((with_reducible apply Sat.cond_pt); exact rfl; (try dsimp only [V.EV.sub, V.EV.len]); first | assumption | omega)
      | ((with_reducible apply Sat.callR (h1)); exact rfl; exact rfl; exact rfl; kernel_rfl; (exact cnvX); exact rfl) | fail)
    · refine AllP.cons ?_ .nil
      have e2 : okLen ((Lib.decDigits (u / 10)).length + 1) := by unfold okLen; omega
      exact (congrArg (fun l : List UInt8 => okLen ((Lib.decDigits (u / 10)).length + l.length)) (dig_cut u)).mpr e2
    · (refine Sat.fin (Sat.end1 rfl rfl rfl True.intro (.refl _ purX) (by first | exact .inl rfl | exact .inr rfl) (fun _ h => h)) ?_; (exact congrArg SV.str ((dec_big h).trans (congrArg (Lib.decDigits (u / 10) ++ ·) (dig_cut u).symm))))
theorem decR_spec (v : Int) (h0 : 0 ≤ v) (h1 : v ≤ 60000) : Fun Tryz.prog [] 53 [.int .i64 v] (.str (Lib.itoa v)) := by
  have h := dec_spec v.toNat (by omega)
  rw [← itoa_nat h0, Int.toNat_of_nonneg h0] at h
  exact h
theorem printR_bad (s : SetL) (h : validS s = false) : Fun Tryz.prog [] 25 [s.v] (.str []) := by
  have h1 := ValidR_spec s
  rw [h] at h1
  refine Fun.mk 7 Tryz.func25 rfl Tryz.ntmps25 rfl rfl fun T w0 => ?_
  repeat' (first
    | ((with_reducible apply Sat.run (X := X64)); exact rfl; (first | exact True.intro | (exact phi) | skip))
    | ((with_reducible apply Sat.cond_t); exact rfl)
    | ((with_reducible apply Sat.callR (h1)); exact rfl; exact rfl; exact rfl; kernel_rfl; (exact cnvX); exact rfl) | fail)
  (refine Sat.fin (Sat.end1 rfl rfl rfl True.intro (.refl _ purX) (by first | exact .inl rfl | exact .inr rfl) (fun _ h => h)) ?_; rfl)
theorem printR_good (s : SetL) (h : ValidS s) : Fun Tryz.prog [] 25 [s.v] (.str (printS Lib.itoa s)) := by
  have h1 := ValidR_spec s
  rw [(validS_iff s).2 h] at h1
  have hv1 := h.ver
  have h2 := decR_spec s.version hv1.1 hv1.2
  have hl := Lib.itoa_length_le s.version (by omega) (by omega)
  have hpv1 := pur_val s.vals
  have hpv2 := pur_val s.kept
  have hfew := h.few
  refine Fun.mk 7 Tryz.func25 rfl Tryz.ntmps25 rfl rfl fun T w0 => ?_
  repeat' (first
    | ((with_reducible apply Sat.run (X := X64)); exact rfl; (first | exact True.intro | (exact phi) | skip))
    | ((with_reducible apply Sat.cond_f); exact rfl)
    | ((with_reducible apply Sat.callR (h1)); exact rfl; exact rfl; exact rfl; kernel_rfl; (exact cnvX); exact rfl)
    | ((with_reducible apply Sat.callR (h2)); exact rfl; exact rfl; exact rfl; kernel_rfl; (exact cnvX); exact rfl) | fail)
  · refine AllP.cons ?_ (.cons ?_ .nil) <;> (simp only [okLen, List.length_append, List.length_cons, List.length_nil]; omega)
  · apply Sat.loop (α := Nat × List UInt8) (fun x => x.1 ≤ s.vals.length ∧ Hd (x.2 = pr1 s x.1) ∧ x.2.length ≤ 3000 * (x.1 + 1)) (fun x => s.vals.length - x.1) (0, setW ++ 32 :: Lib.itoa s.version ++ [10]) (fun x => [(3, .str x.2), (4, .int .i64 (x.1 : Int))]) (fun _ => []) [] [] 0
    · intro x; exact rfl
    · intro x; exact rfl
    · exact rfl
    · exact rfl
    · ((repeat' (first | exact AllP.nil | with_reducible refine AllP.cons ?_ ?_)) <;> first | exact rfl | exact trivial | exact Int.natCast_add_one _ | exact ⟨rfl, rfl⟩ | exact ⟨rfl, rfl, rfl⟩ | exact ⟨rfl, rfl, rfl, rfl⟩ | exact ⟨rfl, .inl rfl⟩ | exact ⟨rfl, .inr rfl⟩ | exact pur | (intro _; exact rfl) | (intro _; exact trivial) | (intro _; exact pur) | first | exact pur_val _ | (intro _ _; simp [pureL, pureS, pureE]; done))
    · refine ⟨Nat.zero_le _, ⟨by simp [pr1, joinB]⟩, ?_⟩
      show (setW ++ 32 :: Lib.itoa s.version ++ [10]).length ≤ _
      simp only [setW, List.length_append, List.length_cons, List.length_nil]; omega
    · rintro ⟨x, out⟩ ⟨x1, x2, x3⟩
      dsimp only at x1 x2 x3 ⊢
      by_cases hx : x < s.vals.length
      · obtain ⟨n1, n2⟩ := right_len (h.right (s.vals.getD (x : Int).toNat v00) (by rw [Int.toNat_natCast, List.getD_eq_getElem?_getD, List.getElem?_eq_getElem hx]; exact List.getElem_mem hx))
        repeat' (first
          | ((with_reducible apply Sat.run (X := X64)); exact rfl; (first | exact True.intro | (exact phi) | skip))
          | ((with_reducible apply Sat.drawn); kernel_rfl)
          | ((with_reducible apply DSat.run (X := X64)); exact rfl; (first | exact True.intro | (exact phi) | skip))
          | ((with_reducible apply DSat.fin); kernel_rfl)
          | ((with_reducible apply Sat.cond_pt); exact rfl; (try dsimp only [V.EV.sub, V.EV.len]); first | assumption | omega) | fail)
        · (repeat' (first | exact AllP.nil | with_reducible refine AllP.cons ?_ ?_)) <;> first | exact rfl | (simp only [okLen, List.length_append, List.length_cons, List.length_nil]; omega) | ((try dsimp only [V.EV.len]); omega) | exact inR_i64 (by omega) (by omega)
        · have k3 : out ++ ([118, 97, 108, 32] ++ (s.vals.getD (x : Int).toNat v00).name ++ [32] ++ (s.vals.getD (x : Int).toNat v00).val ++ [10]) = pr1 s (x + 1) := by
            rw [pr1_at s x hx, x2.get]
            rw [Int.toNat_natCast]
            simp [valLn, valW]
          have k4 := congrArg List.length k3
          refine Sat.back (x + 1, pr1 s (x + 1)) [] rfl ?_ ?_ ?_
          · (repeat' (first | exact AllP.nil | with_reducible refine AllP.cons ?_ ?_)) <;> first | exact rfl | exact trivial | exact k3 | exact congrArg SV.str k3 | exact Int.natCast_add_one _ | exact purX | exact pur_val _
          · refine ⟨hx, ⟨rfl⟩, ?_⟩
            show (pr1 s (x + 1)).length ≤ 3000 * (x + 1 + 1)
            rw [← k4]
            simp only [List.length_append, List.length_cons, List.length_nil]; omega
          · show s.vals.length - (x + 1) < s.vals.length - x
            omega
      · obtain rfl : x = s.vals.length := by omega
        repeat' (first
          | ((with_reducible apply Sat.run (X := X64)); exact rfl; (first | exact True.intro | (exact phi) | skip))
          | ((with_reducible apply Sat.cond_pf); exact rfl; (try dsimp only [V.EV.sub, V.EV.len]); first | assumption | omega) | fail)
        have hb1 : out.length ≤ 60000 := by omega
        have hb2 : Hd (out = pr2 s 0) := ⟨x2.get.trans (pr12 s)⟩
        clear x2 x3
        apply Sat.loop (α := Nat × List UInt8) (fun x => x.1 ≤ s.kept.length ∧ Hd (x.2 = pr2 s x.1) ∧ x.2.length ≤ 60000 + 3000 * x.1) (fun x => s.kept.length - x.1) (0, out) (fun x => [(3, .str x.2), (5, .int .i64 (x.1 : Int))]) (fun _ => []) [] [] 0
        · intro x; exact rfl
        · intro x; exact rfl
        · exact rfl
        · exact rfl
        · ((repeat' (first | exact AllP.nil | with_reducible refine AllP.cons ?_ ?_)) <;> first | exact rfl | exact trivial | exact Int.natCast_add_one _ | exact ⟨rfl, rfl⟩ | exact ⟨rfl, rfl, rfl⟩ | exact ⟨rfl, rfl, rfl, rfl⟩ | exact ⟨rfl, .inl rfl⟩ | exact ⟨rfl, .inr rfl⟩ | exact pur | (intro _; exact rfl) | (intro _; exact trivial) | (intro _; exact pur) | first | exact pur_val _ | (intro _ _; simp [pureL, pureS, pureE]; done))
        · exact ⟨Nat.zero_le _, hb2, by dsimp only; omega⟩
        · clear hb1 hb2 hx
          rintro ⟨x, out⟩ ⟨x1, x2, x3⟩
          dsimp only at x1 x2 x3 ⊢
          by_cases hx : x < s.kept.length
          · by_cases hn : (s.kept.getD (x : Int).toNat v00).name = []
            · repeat' (first
                  | ((with_reducible apply Sat.run (X := X64)); exact rfl; (first | exact True.intro | (exact phi) | skip))
                  | ((with_reducible apply Sat.drawn); kernel_rfl)
                  | ((with_reducible apply DSat.run (X := X64)); exact rfl; (first | exact True.intro | (exact phi) | skip))
                  | ((with_reducible apply DSat.fin); kernel_rfl)
                  | ((with_reducible apply Sat.cond_t); exact rfl)
                  | ((with_reducible apply Sat.cond_f); exact rfl)
                  | ((with_reducible apply Sat.cond_pt); exact rfl; (try dsimp only [V.EV.sub, V.EV.len]); first | assumption | omega)
                  | ((with_reducible apply Sat.cond_pf); exact rfl; (try dsimp only [V.EV.sub, V.EV.len]); first | assumption | omega)
                  | ((with_reducible apply Sat.cond_p); exact rfl; all_goals intro h)
                  | ((with_reducible apply Sat.cond); exact rfl; all_goals intro h) | fail)
              · (repeat' (first | exact AllP.nil | with_reducible refine AllP.cons ?_ ?_)) <;> first | exact rfl | (simp only [okLen, List.length_append, List.length_cons, List.length_nil]; omega) | ((try dsimp only [V.EV.len]); omega) | exact inR_i64 (by omega) (by omega)
              · have k3 : out ++ [107, 101, 112, 116, 32, 45, 10] = pr2 s (x + 1) := by
                  rw [pr2_at s x hx, x2.get]
                  unfold keptLn
                  rw [if_pos (by rw [Int.toNat_natCast] at hn; exact hn)]
                  rfl
                have k4 := congrArg List.length k3
                refine Sat.back (x + 1, pr2 s (x + 1)) [] rfl ?_ ?_ ?_
                · (repeat' (first | exact AllP.nil | with_reducible refine AllP.cons ?_ ?_)) <;> first | exact rfl | exact trivial | exact k3 | exact congrArg SV.str k3 | exact Int.natCast_add_one _ | exact purX | exact pur_val _
                · refine ⟨hx, ⟨rfl⟩, ?_⟩
                  show (pr2 s (x + 1)).length ≤ 60000 + 3000 * (x + 1)
                  rw [← k4]
                  simp only [List.length_append, List.length_cons, List.length_nil]; omega
                · show s.kept.length - (x + 1) < s.kept.length - x
                  omega
            · have hm : s.kept.getD (x : Int).toNat v00 ∈ s.kept := by rw [Int.toNat_natCast, List.getD_eq_getElem?_getD, List.getElem?_eq_getElem hx]; exact List.getElem_mem hx
              obtain ⟨n1, n2⟩ := right_len (((h.kept _ hm).resolve_left fun e => hn (by rw [e])))
              repeat' (first
                | ((with_reducible apply Sat.run (X := X64)); exact rfl; (first | exact True.intro | (exact phi) | skip))
                | ((with_reducible apply Sat.drawn); kernel_rfl)
                | ((with_reducible apply DSat.run (X := X64)); exact rfl; (first | exact True.intro | (exact phi) | skip))
                | ((with_reducible apply DSat.fin); kernel_rfl)
                | ((with_reducible apply Sat.cond_pt); exact rfl; (try dsimp only [V.EV.sub, V.EV.len]); first | assumption | omega)
                | ((with_reducible apply Sat.cond_pf); exact rfl; (try dsimp only [V.EV.sub, V.EV.len]); first | assumption | omega) | fail)
              · (repeat' (first | exact AllP.nil | with_reducible refine AllP.cons ?_ ?_)) <;> first | exact rfl | (simp only [okLen, List.length_append, List.length_cons, List.length_nil]; omega) | ((try dsimp only [V.EV.len]); omega) | exact inR_i64 (by omega) (by omega)
              · have k3 : out ++ ([107, 101, 112, 116, 32] ++ (s.kept.getD (x : Int).toNat v00).name ++ [32] ++ (s.kept.getD (x : Int).toNat v00).val ++ [10]) = pr2 s (x + 1) := by
                  rw [pr2_at s x hx, x2.get]
                  unfold keptLn
                  rw [if_neg (by rw [Int.toNat_natCast] at hn; exact hn), Int.toNat_natCast]
                  simp [keptW]
                have k4 := congrArg List.length k3
                refine Sat.back (x + 1, pr2 s (x + 1)) [] rfl ?_ ?_ ?_
                · (repeat' (first | exact AllP.nil | with_reducible refine AllP.cons ?_ ?_)) <;> first | exact rfl | exact trivial | exact k3 | exact congrArg SV.str k3 | exact Int.natCast_add_one _ | exact purX | exact pur_val _
                · refine ⟨hx, ⟨rfl⟩, ?_⟩
                  show (pr2 s (x + 1)).length ≤ 60000 + 3000 * (x + 1)
                  rw [← k4]
                  simp only [List.length_append, List.length_cons, List.length_nil]; omega
                · show s.kept.length - (x + 1) < s.kept.length - x
                  omega
          · obtain rfl : x = s.kept.length := by omega
            repeat' (first
              | ((with_reducible apply Sat.run (X := X64)); exact rfl; (first | exact True.intro | (exact phi) | skip))
              | ((with_reducible apply Sat.cond_pf); exact rfl; (try dsimp only [V.EV.sub, V.EV.len]); first | assumption | omega) | fail)
            have x3 := x2.get.trans (pr2_end s h)
            subst x3
            (refine Sat.fin (Sat.end1 rfl rfl rfl True.intro (.refl _ purX) (by first | exact .inl rfl | exact .inr rfl) (fun _ h => h)) ?_; rfl)
theorem printR_spec (s : SetL) : Fun Tryz.prog [] 25 [s.v] (.str (printS Lib.itoa s)) := by
  by_cases h : validS s = true
  · exact printR_good s ((validS_iff s).1 h)
  · have e : printS Lib.itoa s = [] := by unfold printS; rw [if_neg h]
    rw [e]
    exact printR_bad s (by simpa using h)
end Go.Proofs.YtpbgihhfcdggkaaGreatDoor
end
section
namespace Go.Proofs.YtpbgihhfcdggkaaGreatDoor
open Go.RowKit V
set_option maxRecDepth 100000
set_option maxHeartbeats 4000000
set_option linter.unusedSimpArgs false
set_option linter.unusedVariables false
attribute [local irreducible] V.Sat V.DSat
theorem cutF_at (c : UInt8) : ∀ (s : List UInt8) (x : Nat), x < s.length → (∀ j, j < x → s.getD j 0 ≠ c) → s.getD x 0 = c → cutF c s = (s.take x, s.drop (x + 1))
  | [], x, h, _, _ => by simp at h
  | y :: s, 0, _, _, h => by
    have h : y = c := h
    rw [cutF, decide_eq_true h]
    rfl
  | y :: s, x + 1, h, h1, h2 => by
    have hy : ¬ y = c := h1 0 (Nat.zero_lt_succ _)
    rw [cutF, decide_eq_false hy, cond_false, cutF_at c s x (by simpa using h) (fun j hj => h1 (j + 1) (Nat.succ_lt_succ hj)) h2]
    rfl
theorem cutF_not (c : UInt8) (s : List UInt8) (h : ∀ j, j < s.length → s.getD j 0 ≠ c) : cutF c s = (s, []) := by
  refine cutF_miss c s fun hm => ?_
  obtain ⟨j, hj, e⟩ := List.mem_iff_getElem.1 hm
  exact h j hj (by rw [List.getD_eq_getElem?_getD, List.getElem?_eq_getElem hj]; exact e)
theorem u8_eq (a b : UInt8) : ((a.toNat : Int) = (b.toNat : Int)) ↔ a = b := by
  constructor
  · intro h
    exact UInt8.toNat_inj.1 (by omega)
  · rintro rfl; rfl
theorem first_spec (s : List UInt8) (c : UInt8) : Fun Tryz.prog [] 54 [.str s, .int .u8 (c.toNat : Int)] (.tup [.str (cutF c s).1, .str (cutF c s).2]) := by
  refine Fun.mkF 6 Tryz.func54 rfl Tryz.ntmps54 rfl rfl fun hf T w0 => ?_
  obtain ⟨hl, _⟩ := hf
  have hl : okLen s.length := hl
  unfold okLen at hl
  repeat' (first
    | ((with_reducible apply Sat.run (X := X64)); exact rfl; (first | exact True.intro | (exact phi) | skip)) | fail)
  apply Sat.loop (α := Nat) (fun x => x ≤ s.length ∧ ∀ j, j < x → s.getD j 0 ≠ c) (fun x => s.length - x) 0 (fun x => [(6, .int .i64 (x : Int))]) (fun _ => []) [] [] 0
  · intro x; exact rfl
  · intro x; exact rfl
  · exact rfl
  · exact rfl
  · ((repeat' (first | exact AllP.nil | with_reducible refine AllP.cons ?_ ?_)) <;> first | exact rfl | exact trivial | exact Int.natCast_add_one _ | exact ⟨rfl, rfl⟩ | exact ⟨rfl, rfl, rfl⟩ | exact ⟨rfl, rfl, rfl, rfl⟩ | exact ⟨rfl, .inl rfl⟩ | exact ⟨rfl, .inr rfl⟩ | exact pur | (intro _; exact rfl) | (intro _; exact trivial) | (intro _; exact pur) | (intro _ _; simp [pureL, pureS, pureE]; done))
  · exact ⟨Nat.zero_le _, fun i hi => by omega⟩
  · rintro x ⟨x1, x2⟩
    by_cases hx : x < s.length
    · repeat' (first
          | ((with_reducible apply Sat.run (X := X64)); exact rfl; (first | exact True.intro | (exact phi) | skip))
          | ((with_reducible apply Sat.drawn); kernel_rfl)
          | ((with_reducible apply DSat.run (X := X64)); exact rfl; (first | exact True.intro | (exact phi) | skip))
          | ((with_reducible apply DSat.fin); kernel_rfl)
          | ((with_reducible apply Sat.cond_t); exact rfl)
          | ((with_reducible apply Sat.cond_f); exact rfl)
          | ((with_reducible apply Sat.cond_pt); exact rfl; (try dsimp only [V.EV.sub, V.EV.len]); first | assumption | omega)
          | ((with_reducible apply Sat.cond_pf); exact rfl; (try dsimp only [V.EV.sub, V.EV.len]); first | assumption | omega)
          | ((with_reducible apply Sat.cond_p); exact rfl; all_goals intro h)
          | ((with_reducible apply Sat.cond); exact rfl; all_goals intro h) | fail)
      · have hh : s.getD x 0 = c := by
          have h' := h
          rw [Int.toNat_natCast] at h'
          exact (u8_eq _ _).1 h'
        have e := cutF_at c s x hx x2 hh
        (refine Sat.fin (Sat.end2 rfl rfl rfl rfl True.intro True.intro (.refl _ purX) (.refl _ purX) (by first | exact .inl rfl | exact .inr rfl) (fun _ h => h)) ?_; (rw [e]; simp; try exact (List.take_of_length_le (by simp)).symm))
      · have hh : s.getD x 0 ≠ c := by
          intro q
          have h' := h
          rw [Int.toNat_natCast] at h'
          exact h' ((u8_eq _ _).2 q)
        refine Sat.back (x + 1) [] rfl ?_ ?_ ?_
        · ((repeat' (first | exact AllP.nil | with_reducible refine AllP.cons ?_ ?_)) <;> first | exact rfl | exact trivial | exact Int.natCast_add_one _ | exact ⟨rfl, rfl⟩ | exact ⟨rfl, rfl, rfl⟩ | exact ⟨rfl, rfl, rfl, rfl⟩ | exact ⟨rfl, .inl rfl⟩ | exact ⟨rfl, .inr rfl⟩ | exact pur | (intro _; exact rfl) | (intro _; exact trivial) | (intro _; exact pur) | (intro _ _; simp [pureL, pureS, pureE]; done))
        · refine ⟨hx, fun i hi => ?_⟩
          rcases Nat.lt_succ_iff_lt_or_eq.1 hi with h1 | rfl
          · exact x2 i h1
          · exact hh
        · show s.length - (x + 1) < s.length - x
          omega
    · repeat' (first
          | ((with_reducible apply Sat.run (X := X64)); exact rfl; (first | exact True.intro | (exact phi) | skip))
          | ((with_reducible apply Sat.drawn); kernel_rfl)
          | ((with_reducible apply DSat.run (X := X64)); exact rfl; (first | exact True.intro | (exact phi) | skip))
          | ((with_reducible apply DSat.fin); kernel_rfl)
          | ((with_reducible apply Sat.cond_t); exact rfl)
          | ((with_reducible apply Sat.cond_f); exact rfl)
          | ((with_reducible apply Sat.cond_pt); exact rfl; (try dsimp only [V.EV.sub, V.EV.len]); first | assumption | omega)
          | ((with_reducible apply Sat.cond_pf); exact rfl; (try dsimp only [V.EV.sub, V.EV.len]); first | assumption | omega)
          | ((with_reducible apply Sat.cond_p); exact rfl; all_goals intro h)
          | ((with_reducible apply Sat.cond); exact rfl; all_goals intro h) | fail)
      (refine Sat.fin (Sat.end2 rfl rfl rfl rfl True.intro True.intro (.refl _ purX) (.refl _ purX) (by first | exact .inl rfl | exact .inr rfl) (fun _ h => h)) ?_; (rw [cutF_not c s fun j hj => x2 j (by omega)]))
def bndN : Nat → Int
  | 0 => 900
  | n + 1 => 10 * bndN n + 900
theorem bnd5 : ∀ x, x ≤ 5 → 900 ≤ bndN x ∧ bndN x ≤ 1000000000
  | 0, _ => by decide
  | 1, _ => by decide
  | 2, _ => by decide
  | 3, _ => by decide
  | 4, _ => by decide
  | 5, _ => by decide
theorem numD_at (s : List UInt8) (x : Nat) (hx : x < s.length) : numD (s.take (x + 1)) = 10 * numD (s.take x) + ((s.getD x 0).toNat : Int) - 48 := by
  have e : s.take (x + 1) = s.take x ++ [s.getD x 0] := by
    rw [List.take_add_one, List.getD_eq_getElem?_getD, List.getElem?_eq_getElem hx]
    rfl
  unfold numD
  rw [e, List.foldl_append]
  rfl
theorem number_spec (s : List UInt8) : Fun Tryz.prog [] 55 [.str s] (.int .i64 (numR s)) := by
  refine Fun.mkF 6 Tryz.func55 rfl Tryz.ntmps55 rfl rfl fun hf T w0 => ?_
  obtain ⟨hl, _⟩ := hf
  have hl : okLen s.length := hl
  unfold okLen at hl
  repeat' (first
    | ((with_reducible apply Sat.run (X := X64)); exact rfl; (first | exact True.intro | (exact phi) | skip)) | fail)
  apply Sat.loop (α := Nat × Int) (fun x => x.1 ≤ s.length ∧ x.1 ≤ 5 ∧ x.2 = numD (s.take x.1) ∧ - bndN x.1 ≤ x.2 ∧ x.2 ≤ bndN x.1) (fun x => s.length - x.1) (0, 0) (fun x => [(3, .int .i64 x.2), (4, .int .i64 (x.1 : Int))]) (fun _ => []) [] [] 0
  · intro x; exact rfl
  · intro x; exact rfl
  · exact rfl
  · exact rfl
  · ((repeat' (first | exact AllP.nil | with_reducible refine AllP.cons ?_ ?_)) <;> first | exact rfl | exact trivial | exact Int.natCast_add_one _ | exact ⟨rfl, rfl⟩ | exact ⟨rfl, rfl, rfl⟩ | exact ⟨rfl, rfl, rfl, rfl⟩ | exact ⟨rfl, .inl rfl⟩ | exact ⟨rfl, .inr rfl⟩ | exact pur | (intro _; exact rfl) | (intro _; exact trivial) | (intro _; exact pur) | (intro _ _; simp [pureL, pureS, pureE]; done))
  · exact ⟨Nat.zero_le _, by decide, rfl, by decide, by decide⟩
  · rintro ⟨x, n⟩ ⟨x1, x2, x3, x4, x5⟩
    dsimp only at x1 x2 x3 x4 x5 ⊢
    obtain ⟨b1, b2⟩ := bnd5 x x2
    have hb : bndN (x + 1) = 10 * bndN x + 900 := rfl
    by_cases hx : x < s.length ∧ x < 5
    · have hu := (s.getD (x : Int).toNat 0).toNat_lt
      have hc : (bif decide ((x : Int) < (s.length : Int)) then decide ((x : Int) < 5) else false) = true := by
        rw [decide_eq_true (show (x : Int) < (s.length : Int) by omega), decide_eq_true (show (x : Int) < 5 by omega)]
        rfl
      repeat' (first
        | (rw [hc])
        | ((with_reducible apply Sat.run (X := X64)); exact rfl; (first | exact True.intro | (exact phi) | skip))
        | ((with_reducible apply Sat.cond_t); exact rfl) | fail)
      refine Sat.back (x + 1, 10 * n + ((s.getD (x : Int).toNat 0).toNat : Int) - 48) [] rfl ?_ ?_ ?_
      · ((repeat' (first | exact AllP.nil | with_reducible refine AllP.cons ?_ ?_)) <;> first | exact rfl | exact trivial | exact Int.natCast_add_one _ | exact ⟨rfl, rfl⟩ | exact ⟨rfl, rfl, rfl⟩ | exact ⟨rfl, rfl, rfl, rfl⟩ | exact ⟨rfl, .inl rfl⟩ | exact ⟨rfl, .inr rfl⟩ | exact pur | (intro _; exact rfl) | (intro _; exact trivial) | (intro _; exact pur) | (intro _ _; simp [pureL, pureS, pureE]; done))
      · refine ⟨hx.1, hx.2, ?_, ?_, ?_⟩
        · show _ = numD (s.take (x + 1))
          rw [numD_at s x hx.1, ← x3, Int.toNat_natCast]
        · show - bndN (x + 1) ≤ 10 * n + ((s.getD (x : Int).toNat 0).toNat : Int) - 48
          omega
        · show 10 * n + ((s.getD (x : Int).toNat 0).toNat : Int) - 48 ≤ bndN (x + 1)
          omega
      · show s.length - (x + 1) < s.length - x
        omega
    · have hc : (bif decide ((x : Int) < (s.length : Int)) then decide ((x : Int) < 5) else false) = false := by
        by_cases q : x < s.length
        · rw [decide_eq_true (show (x : Int) < (s.length : Int) by omega), decide_eq_false (show ¬ (x : Int) < 5 by omega)]
          rfl
        · rw [decide_eq_false (show ¬ (x : Int) < (s.length : Int) by omega)]
          rfl
      repeat' (first
        | (rw [hc])
        | ((with_reducible apply Sat.run (X := X64)); exact rfl; (first | exact True.intro | (exact phi) | skip))
        | ((with_reducible apply Sat.cond_f); exact rfl) | fail)
      (refine Sat.fin (Sat.end1 rfl rfl rfl True.intro (.refl _ purX) (by first | exact .inl rfl | exact .inr rfl) (fun _ h => h)) ?_; (refine congrArg (SV.int .i64) ?_; rw [x3]; unfold numR; rcases Nat.lt_or_ge x s.length with q | q; (rw [show x = 5 by omega]); (rw [List.take_of_length_le q, List.take_of_length_le (by omega)])))
theorem stepR_1 (acc : List ValL × List ValL) (l : List UInt8) (h : (cutF 32 l).1 = valW) : stepR acc l = (acc.1 ++ [⟨(cutF 32 (cutF 32 l).2).1, (cutF 32 (cutF 32 l).2).2⟩], acc.2) := if_pos h
theorem stepR_2 (acc : List ValL × List ValL) (l : List UInt8) (h : ¬ (cutF 32 l).1 = valW) (h2 : l = keptZ) : stepR acc l = (acc.1, acc.2 ++ [val0]) := (if_neg h).trans (if_pos h2)
theorem stepR_3 (acc : List ValL × List ValL) (l : List UInt8) (h : ¬ (cutF 32 l).1 = valW) (h2 : ¬ l = keptZ) : stepR acc l = (acc.1, acc.2 ++ [⟨(cutF 32 (cutF 32 l).2).1, (cutF 32 (cutF 32 l).2).2⟩]) := (if_neg h).trans (if_neg h2)
theorem cutF_short (c : UInt8) : ∀ s : List UInt8, s ≠ [] → (cutF c s).2.length < s.length
  | [], h => absurd rfl h
  | x :: s, _ => by
    rw [cutF]
    by_cases h : x = c
    · rw [decide_eq_true h]; exact Nat.lt_succ_self _
    · rw [decide_eq_false h, cond_false]
      by_cases h2 : s = []
      · subst h2; exact Nat.zero_lt_succ _
      · exact Nat.lt_succ_of_lt (cutF_short c s h2)
structure AtR (s : List UInt8) (acc : List ValL × List ValL) (r : List UInt8) : Prop where
  run : ∃ n, r.length ≤ n ∧ refK n acc r = refK s.length ([], []) (cutF 10 s).2
  few : acc.1.length + acc.2.length ≤ 33
theorem AtR.next {s : List UInt8} {acc : List ValL × List ValL} {r : List UInt8} (h : AtR s acc r) (h1 : r ≠ []) (h2 : acc.1.length + acc.2.length ≤ 32) (acc' : List ValL × List ValL) (hs : stepR acc (cutF 10 r).1 = acc') (hl : acc'.1.length + acc'.2.length ≤ 33) : AtR s acc' (cutF 10 r).2 := by
  obtain ⟨n, hn, hr⟩ := h.run
  have hsh := cutF_short 10 r h1
  cases n with
  | zero => omega
  | succ n =>
    rw [refK, if_pos ⟨h1, h2⟩, hs] at hr
    exact ⟨⟨n, by omega, hr⟩, hl⟩
theorem AtR.fin {s : List UInt8} {acc : List ValL × List ValL} {r : List UInt8} (h : AtR s acc r) (h1 : ¬ (r ≠ [] ∧ acc.1.length + acc.2.length ≤ 32)) : refK s.length ([], []) (cutF 10 s).2 = acc := by
  obtain ⟨n, hn, hr⟩ := h.run
  rw [← hr]
  cases n with
  | zero => rfl
  | succ n => rw [refK, if_neg h1]
theorem parseR_spec (s : List UInt8) : Fun Tryz.prog [] 26 [.str s] (.tup [(resP Lib.itoa readR s).1.v, .int .i64 (resP Lib.itoa readR s).2]) := by
  have hf1 := first_spec s 10
  have hf2 := first_spec (cutF 10 s).1 32
  have hn := number_spec (cutF 32 (cutF 10 s).1).2
  refine Fun.mkF 7 Tryz.func26 rfl Tryz.ntmps26 rfl rfl fun hf T w0 => ?_
  obtain ⟨hl, _⟩ := hf
  have hl : okLen s.length := hl
  unfold okLen at hl
  have hlr : ((cutF 10 s).2).length ≤ s.length := by
    by_cases q : s = []
    · subst q; exact Nat.le_refl _
    · exact Nat.le_of_lt (cutF_short 10 s q)
  repeat' (first
    | ((with_reducible apply Sat.run (X := X64)); exact rfl; (first | exact True.intro | (exact phi) | skip))
    | ((with_reducible apply Sat.callR (hf1)); exact rfl; exact rfl; exact rfl; kernel_rfl; (exact cnvX); exact rfl)
    | ((with_reducible apply Sat.callR (hf2)); exact rfl; exact rfl; exact rfl; kernel_rfl; (exact cnvX); exact rfl)
    | ((with_reducible apply Sat.callR (hn)); exact rfl; exact rfl; exact rfl; kernel_rfl; (exact cnvX); exact rfl) | fail)
  apply Sat.loop (α := (List ValL × List ValL) × List UInt8) (fun x => AtR s x.1 x.2) (fun x => x.2.length) (([], []), (cutF 10 s).2) (fun x => [(6, .str x.2)]) (fun x => [(1, .cells 32 [.int .i64 (numR (cutF 32 (cutF 10 s).1).2), .row 2 0 2 0 x.1.1.length, .row 3 0 2 0 x.1.2.length]), (2, .row 53 (valE x.1.1)), (3, .row 53 (valE x.1.2))]) [] [(2, none), (3, none)] 2
  · intro x; exact rfl
  · intro x; exact rfl
  · exact rfl
  · exact rfl
  · ((repeat' (first | exact AllP.nil | with_reducible refine AllP.cons ?_ ?_)) <;> first | exact rfl | exact trivial | exact Int.natCast_add_one _ | exact ⟨rfl, rfl⟩ | exact ⟨rfl, rfl, rfl⟩ | exact ⟨rfl, rfl, rfl, rfl⟩ | exact ⟨rfl, .inl rfl⟩ | exact ⟨rfl, .inr rfl⟩ | exact pur | (intro _; exact rfl) | (intro _; exact trivial) | (intro _; exact pur) | first | exact pur_val _ | (intro _ _; simp [pureL, pureS, pureE]; done))
  · exact ⟨⟨s.length, hlr, rfl⟩, Nat.zero_le _⟩
  · rintro ⟨⟨G, H⟩, r⟩ hw
    have hfew : G.length + H.length ≤ 33 := hw.few
    by_cases hx : r ≠ [] ∧ G.length + H.length ≤ 32
    · have hc : (bif decide (r ≠ []) then decide ((G.length : Int) + (H.length : Int) ≤ 32) else false) = true := by
        rw [decide_eq_true hx.1, decide_eq_true (show (G.length : Int) + (H.length : Int) ≤ 32 by omega)]
        rfl
      have hg1 := first_spec r 10
      have hg2 := first_spec (cutF 10 r).1 32
      have hg3 := first_spec (cutF 32 (cutF 10 r).1).2 32
      repeat' (first
        | (rw [hc])
        | ((with_reducible apply Sat.run (X := X64)); exact rfl; (first | exact True.intro | (exact phi) | skip))
        | ((with_reducible apply Sat.cond_t); exact rfl)
        | ((with_reducible apply Sat.cond_p); exact rfl; all_goals intro h)
        | ((with_reducible apply Sat.callR (hg1)); exact rfl; exact rfl; exact rfl; kernel_rfl; (exact cnvX); exact rfl)
        | ((with_reducible apply Sat.callR (hg2)); exact rfl; exact rfl; exact rfl; kernel_rfl; (exact cnvX); exact rfl)
        | ((with_reducible apply Sat.callR (hg3)); exact rfl; exact rfl; exact rfl; kernel_rfl; (exact cnvX); exact rfl) | fail)
      · have hh := h
        have hG : stepR (G, H) (cutF 10 r).1 = (G ++ [(⟨(cutF 32 (cutF 32 (cutF 10 r).1).2).1, (cutF 32 (cutF 32 (cutF 10 r).1).2).2⟩ : ValL)], H) := stepR_1 _ _ hh
        refine Sat.reX (i := 6) (valE (G ++ [(⟨(cutF 32 (cutF 32 (cutF 10 r).1).2).1, (cutF 32 (cutF 32 (cutF 10 r).1).2).2⟩ : ValL)])) rfl rfl (by simp [EV.len, EV.sub]) rfl (fun y hy => app_row G (⟨(cutF 32 (cutF 32 (cutF 10 r).1).2).1, (cutF 32 (cutF 32 (cutF 10 r).1).2).2⟩ : ValL) y (by simpa [EV.len] using hy)) ?_
        refine Sat.back ((G ++ [(⟨(cutF 32 (cutF 32 (cutF 10 r).1).2).1, (cutF 32 (cutF 32 (cutF 10 r).1).2).2⟩ : ValL)], H), (cutF 10 r).2) [(2, some 6)] rfl ?_ ?_ ?_
        · (repeat' (first | exact AllP.nil | with_reducible refine AllP.cons ?_ ?_)) <;> first | exact rfl | exact trivial | exact Int.natCast_add_one _ | exact ⟨rfl, rfl, rfl, rfl⟩ | exact ⟨rfl, rfl, rfl, (by simp [EV.len, EV.sub])⟩ | exact purX | exact pur_val _ | exact fun _ _ => rfl
        · refine hw.next hx.1 hx.2 _ hG ?_
          simp only [List.length_append, List.length_cons, List.length_nil]; omega
        · exact cutF_short 10 r hx.1
      · rename_i hh
        have hk := h
        have hG : stepR (G, H) (cutF 10 r).1 = (G, H ++ [val0]) := stepR_2 _ _ hh hk
        refine Sat.reX (i := 6) (valE (H ++ [v00])) rfl rfl (by simp [EV.len, EV.sub]) rfl (fun y hy => app_row H v00 y (by simpa [EV.len] using hy)) ?_
        refine Sat.back ((G, H ++ [val0]), (cutF 10 r).2) [(3, some 6)] rfl ?_ ?_ ?_
        · (repeat' (first | exact AllP.nil | with_reducible refine AllP.cons ?_ ?_)) <;> first | exact rfl | exact trivial | exact Int.natCast_add_one _ | exact ⟨rfl, rfl, rfl, rfl⟩ | exact ⟨rfl, rfl, rfl, (by simp [EV.len, EV.sub])⟩ | exact purX | exact pur_val _ | exact fun _ _ => rfl
        · refine hw.next hx.1 hx.2 _ hG ?_
          simp only [List.length_append, List.length_cons, List.length_nil]; omega
        · exact cutF_short 10 r hx.1
      · rename_i hh
        have hk := h
        have hG : stepR (G, H) (cutF 10 r).1 = (G, H ++ [(⟨(cutF 32 (cutF 32 (cutF 10 r).1).2).1, (cutF 32 (cutF 32 (cutF 10 r).1).2).2⟩ : ValL)]) := stepR_3 _ _ hh hk
        refine Sat.reX (i := 6) (valE (H ++ [(⟨(cutF 32 (cutF 32 (cutF 10 r).1).2).1, (cutF 32 (cutF 32 (cutF 10 r).1).2).2⟩ : ValL)])) rfl rfl (by simp [EV.len, EV.sub]) rfl (fun y hy => app_row H (⟨(cutF 32 (cutF 32 (cutF 10 r).1).2).1, (cutF 32 (cutF 32 (cutF 10 r).1).2).2⟩ : ValL) y (by simpa [EV.len] using hy)) ?_
        refine Sat.back ((G, H ++ [(⟨(cutF 32 (cutF 32 (cutF 10 r).1).2).1, (cutF 32 (cutF 32 (cutF 10 r).1).2).2⟩ : ValL)]), (cutF 10 r).2) [(3, some 6)] rfl ?_ ?_ ?_
        · (repeat' (first | exact AllP.nil | with_reducible refine AllP.cons ?_ ?_)) <;> first | exact rfl | exact trivial | exact Int.natCast_add_one _ | exact ⟨rfl, rfl, rfl, rfl⟩ | exact ⟨rfl, rfl, rfl, (by simp [EV.len, EV.sub])⟩ | exact purX | exact pur_val _ | exact fun _ _ => rfl
        · refine hw.next hx.1 hx.2 _ hG ?_
          simp only [List.length_append, List.length_cons, List.length_nil]; omega
        · exact cutF_short 10 r hx.1
    · have hread : readR s = ⟨numR (cutF 32 (cutF 10 s).1).2, G, H⟩ := by
        unfold readR
        rw [hw.fin hx]
      have hc : (bif decide (r ≠ []) then decide ((G.length : Int) + (H.length : Int) ≤ 32) else false) = false := by
        by_cases q : r = []
        · rw [decide_eq_false (p := r ≠ []) (not_not_intro q)]; rfl
        · rw [decide_eq_true (p := r ≠ []) q, decide_eq_false (show ¬ (G.length : Int) + (H.length : Int) ≤ 32 by have h9 : ¬ G.length + H.length ≤ 32 := fun z => hx ⟨q, z⟩; omega)]
          rfl
      have hp := printR_spec ⟨numR (cutF 32 (cutF 10 s).1).2, G, H⟩
      have hpv1 := pur_val G
      have hpv2 := pur_val H
      clear hw
      repeat' (first
        | (rw [hc])
        | ((with_reducible apply Sat.run (X := X64)); exact rfl; (first | exact True.intro | (exact phi) | skip))
        | ((with_reducible apply Sat.cond_f); exact rfl)
        | ((with_reducible apply Sat.cond); exact rfl; all_goals intro h)
        | ((with_reducible apply Sat.callG1 (hp)); exact rfl; exact rfl; exact rfl; exact rfl; kernel_rfl; (intro hG; (exact cnvX)); exact rfl) | fail)
      · have e : resP Lib.itoa readR s = (zeroS, 3) := by
          unfold resP
          rw [hread]
          exact if_pos ((res_cond _ _).1 h)
        refine Sat.fin (Sat.end2 rfl rfl rfl rfl True.intro True.intro (by apply Conv.agg; exact cnvX) (.refl _ trivial) (.inl rfl) (fun _ h => h)) ((congrArg (fun r : SetL × Int => SV.tup [r.1.v, .int .i64 r.2]) e : _) : SV.tup [(resP Lib.itoa readR s).1.v, .int .i64 (resP Lib.itoa readR s).2] = SV.tup [zeroS.v, .int .i64 3])
      · have e : resP Lib.itoa readR s = (⟨numR (cutF 32 (cutF 10 s).1).2, G, H⟩, 0) := by
          unfold resP
          rw [hread]
          exact if_neg fun q => by rw [(res_cond _ _).2 q] at h; cases h
        refine Sat.fin (Sat.end2 rfl rfl rfl rfl True.intro True.intro (by apply Conv.agg; exact cnvX) (.refl _ trivial) (.inl rfl) (fun _ h => h)) ((congrArg (fun r : SetL × Int => SV.tup [r.1.v, .int .i64 r.2]) e : _) : SV.tup [(resP Lib.itoa readR s).1.v, .int .i64 (resP Lib.itoa readR s).2] = SV.tup [SetL.v ⟨numR (cutF 32 (cutF 10 s).1).2, G, H⟩, .int .i64 0])
end Go.Proofs.YtpbgihhfcdggkaaGreatDoor
end
section
namespace Go.Proofs.YtpbgihhfcdggkaaGreatDoor
open Go.RowKit V
set_option maxRecDepth 100000
set_option maxHeartbeats 4000000
set_option linter.unusedSimpArgs false
set_option linter.unusedVariables false
attribute [local irreducible] V.Sat V.DSat V.SatP V.ASat V.AOp
theorem pur_s (s : SetL) : pureS s.v := by simp [pureS, pureL, pureE]
theorem mig_arg (s : SetL) (L : List RuleL) (v : Int) (back : Bool) (h : validS s = false ∨ ¬ (0 ≤ v ∧ v ≤ 60000)) : Fun Tryz.prog [] 37 [s.v, .ro (ruleE L), .int .i64 v, .bool back] (.tup [zeroS.v, .int .i64 1]) := by
  have h1 := Valid_spec s
  refine Fun.mk 7 Tryz.func37 rfl Tryz.ntmps37 rfl rfl fun T w0 => ?_
  have hc : (bif bif !validS s then true else decide (v < 0) then true else decide (60000 < v)) = true := by
    rcases h with h | h
    · rw [h]; rfl
    · by_cases q : v < 0
      · rw [decide_eq_true q]; cases validS s <;> rfl
      · rw [decide_eq_true (show 60000 < v by omega)]
        cases (bif !validS s then true else decide (v < 0)) <;> rfl
  repeat' (first
    | (rw [hc])
    | ((with_reducible apply Sat.run (X := X64)); exact rfl; (first | exact True.intro | (exact phi) | skip))
    | ((with_reducible apply Sat.cond_t); exact rfl)
    | ((with_reducible apply Sat.callR (h1)); exact rfl; exact rfl; exact rfl; kernel_rfl; (exact cnvX); exact rfl) | fail)
  refine Sat.fin (Sat.end2 rfl rfl rfl rfl True.intro True.intro (by apply Conv.agg; exact cnvX) (.refl _ trivial) (.inl rfl) (fun _ h => h)) rfl
theorem mig_rule (s : SetL) (L : List RuleL) (v : Int) (back : Bool) (hs : ValidS s) (hv : 0 ≤ v ∧ v ≤ 60000) (hL : L.length ≤ 1000000) (h : ¬ ((∀ i, i < L.length → rightR (L.getD i r00) = true) ∧ L.length ≤ 8)) : Fun Tryz.prog [] 37 [s.v, .ro (ruleE L), .int .i64 v, .bool back] (.tup [zeroS.v, .int .i64 230]) := by
  have h1 := Valid_spec s
  rw [(validS_iff s).2 hs] at h1
  have hc : (bif bif !true then true else decide (v < 0) then true else decide (60000 < v)) = false := by
    rw [decide_eq_false (show ¬ v < 0 by omega), decide_eq_false (show ¬ 60000 < v by omega)]
    rfl
  by_cases hall : ∀ i, i < L.length → rightR (L.getD i r00) = true
  · have h2 := rules_yes L hL hall
    rw [decide_eq_false (fun q => h ⟨hall, q⟩)] at h2
    refine Fun.mk 7 Tryz.func37 rfl Tryz.ntmps37 rfl rfl fun T w0 => ?_
    repeat' (first
      | (rw [hc])
      | ((with_reducible apply Sat.run (X := X64)); exact rfl; (first | exact True.intro | (exact phi) | skip))
      | ((with_reducible apply Sat.cond_t); exact rfl)
      | ((with_reducible apply Sat.cond_f); exact rfl)
      | ((with_reducible apply Sat.callR (h1)); exact rfl; exact rfl; exact rfl; kernel_rfl; (exact cnvX); exact rfl)
      | ((with_reducible apply Sat.mf (h2)); exact rfl; exact rfl; kernel_rfl; exact rfl; exact rfl; exact rfl; ((repeat' (first | exact AllP.nil | with_reducible refine AllP.cons ?_ ?_)) <;> (first | exact rfl | exact True.intro | assumption | exact purX | omega | (simp only [List.length_cons, List.length_nil, List.length_append]; omega))); exact rfl) | fail)
    refine Sat.fin (Sat.end2 rfl rfl rfl rfl True.intro True.intro (by apply Conv.agg; exact cnvX) (.refl _ trivial) (.inl rfl) (fun _ h => h)) rfl
  · have h2 := rules_no L hL hall
    refine Fun.mk 7 Tryz.func37 rfl Tryz.ntmps37 rfl rfl fun T w0 => ?_
    repeat' (first
      | (rw [hc])
      | ((with_reducible apply Sat.run (X := X64)); exact rfl; (first | exact True.intro | (exact phi) | skip))
      | ((with_reducible apply Sat.cond_t); exact rfl)
      | ((with_reducible apply Sat.cond_f); exact rfl)
      | ((with_reducible apply Sat.callR (h1)); exact rfl; exact rfl; exact rfl; kernel_rfl; (exact cnvX); exact rfl)
      | ((with_reducible apply Sat.mf (h2)); exact rfl; exact rfl; kernel_rfl; exact rfl; exact rfl; exact rfl; ((repeat' (first | exact AllP.nil | with_reducible refine AllP.cons ?_ ?_)) <;> (first | exact rfl | exact True.intro | assumption | exact purX | omega | (simp only [List.length_cons, List.length_nil, List.length_append]; omega))); exact rfl) | fail)
    refine Sat.fin (Sat.end2 rfl rfl rfl rfl True.intro True.intro (by apply Conv.agg; exact cnvX) (.refl _ trivial) (.inl rfl) (fun _ h => h)) rfl
theorem big_iff (a b : Nat) : (bif decide ((16 : Int) < (a : Int)) then true else decide ((16 : Int) < (b : Int))) = true ↔ (16 < a ∨ 16 < b) := by
  by_cases h : (16 : Int) < (a : Int)
  · rw [decide_eq_true h]
    exact ⟨fun _ => .inl (by omega), fun _ => rfl⟩
  · rw [decide_eq_false h, cond_false, decide_eq_true_eq]
    omega
theorem mig_do (s : SetL) (L : List RuleL) (v : Int) (hs : ValidS s) (hL : L.length ≤ 8) (hall : ∀ i, i < L.length → rightR (L.getD i r00) = true) (hv : 0 ≤ v ∧ v ≤ 60000) (e : Int) (r : SetL)
    (hr : (runL doS s L = none ∧ r = zeroS ∧ e = 231) ∨ (∃ t, runL doS s L = some t ∧ (((16 < t.vals.length ∨ 16 < t.kept.length) ∧ r = zeroS ∧ e = 2) ∨ (¬ (16 < t.vals.length ∨ 16 < t.kept.length) ∧ r = verS v t ∧ e = 0)))) : Fun Tryz.prog [] 37 [s.v, .ro (ruleE L), .int .i64 v, .bool false] (.tup [r.v, .int .i64 e]) := by
  have h1 := Valid_spec s
  rw [(validS_iff s).2 hs] at h1
  have hc : (bif bif !true then true else decide (v < 0) then true else decide (60000 < v)) = false := by
    rw [decide_eq_false (show ¬ v < 0 by omega), decide_eq_false (show ¬ 60000 < v by omega)]
    rfl
  have h2 := rules_yes L (by omega) hall
  rw [decide_eq_true hL] at h2
  have h3 := rev_mf L (by omega)
  have hL2 : (L).length = L.length := by simp
  have hpv1 := pur_val s.vals
  have hpv2 := pur_val s.kept
  have hn1 : s.vals.length ≤ 1000000 := by have := hs.few; omega
  have hn2 : s.kept.length ≤ 1000000 := by have := hs.few; omega
  have hok : ∀ i, i < (L).length → RuleOk ((L).getD i r00) := fun i hi => by
    have hm : (L).getD i r00 ∈ L := by
      rw [List.getD_eq_getElem?_getD, List.getElem?_eq_getElem hi]
      exact (by simp)
    obtain ⟨j, hj, hje⟩ := List.mem_iff_getElem.1 hm
    have := hall j hj
    rw [List.getD_eq_getElem?_getD, List.getElem?_eq_getElem hj, Option.getD_some, hje] at this
    exact (rightR_ok this).1
  have hway : Way doS s (L) 0 s := ⟨Nat.zero_le _, rfl, hs.rise, by have := hs.few; omega, by have := hs.few; omega⟩
  refine Fun.mk 7 Tryz.func37 rfl Tryz.ntmps37 rfl rfl fun T w0 => ?_
  repeat' (first
    | ((with_reducible apply Sat.makeM); exact rfl)
    | (rw [hc])
    | ((with_reducible apply Sat.run (X := X64)); exact rfl; (first | exact True.intro | (exact phi) | skip))
    | ((with_reducible apply Sat.cond_f); exact rfl)
    | ((with_reducible apply Sat.callR (h1)); exact rfl; exact rfl; exact rfl; kernel_rfl; (exact cnvX); exact rfl)
    | ((with_reducible apply Sat.mf (h2)); exact rfl; exact rfl; kernel_rfl; exact rfl; exact rfl; exact rfl; ((repeat' (first | exact AllP.nil | with_reducible refine AllP.cons ?_ ?_)) <;> (first | exact rfl | exact True.intro | assumption | exact purX | omega | (simp only [List.length_cons, List.length_nil, List.length_append]; omega))); exact rfl) | fail)
  apply V.cutP
  · intro hP
    repeat' (first
      | ((with_reducible apply Sat.clnCall rfl rfl hn2 (by kernel_rfl) rfl))
      | ((with_reducible apply Sat.clnCall rfl rfl hn1 (by kernel_rfl) rfl))
      | ((with_reducible apply Sat.run (X := X64)); exact rfl; (first | exact True.intro | (exact phi) | skip))
      | ((with_reducible apply Sat.anyN 22); exact rfl; kernel_rfl)
      | ((with_reducible apply ASat.done); (decide +kernel); exact hP.out)
      | ((with_reducible apply AOp.of); exact rfl)
      | (with_reducible apply ASat.back)
      | ((with_reducible apply ASat.takeR (X := X64) 0); (decide +kernel); (decide +kernel); (decide +kernel); exact rfl; exact rfl; exact rfl; exact bodyPost_put; exact rfl; (first | exact True.intro | (exact phi) | skip); exact rfl)
      | ((with_reducible apply ASat.takeR (X := X64) 1); (decide +kernel); (decide +kernel); (decide +kernel); exact rfl; exact rfl; exact rfl; exact bodyPost_put; exact rfl; (first | exact True.intro | (exact phi) | skip); exact rfl)
      | ((with_reducible apply ASat.takeR (X := X64) 2); (decide +kernel); (decide +kernel); (decide +kernel); exact rfl; exact rfl; exact rfl; exact bodyPost_put; exact rfl; (first | exact True.intro | (exact phi) | skip); exact rfl)
      | ((with_reducible apply ASat.takeR (X := X64) 3); (decide +kernel); (decide +kernel); (decide +kernel); exact rfl; exact rfl; exact rfl; exact bodyPost_put; exact rfl; (first | exact True.intro | (exact phi) | skip); exact rfl)
      | ((with_reducible apply ASat.takeR (X := X64) 6); (decide +kernel); (decide +kernel); (decide +kernel); exact rfl; exact rfl; exact rfl; exact bodyPost_put; exact rfl; (first | exact True.intro | (exact phi) | skip); exact rfl)
      | ((with_reducible apply ASat.takeR (X := X64) 9); (decide +kernel); (decide +kernel); (decide +kernel); exact rfl; exact rfl; exact rfl; exact bodyPost_put; exact rfl; (first | exact True.intro | (exact phi) | skip); exact rfl)
      | ((with_reducible apply ASat.takeR (X := X64) 10); (decide +kernel); (decide +kernel); (decide +kernel); exact rfl; exact rfl; exact rfl; exact bodyPost_put; exact rfl; (first | exact True.intro | (exact phi) | skip); exact rfl)
      | ((with_reducible apply ASat.takeR (X := X64) 11); (decide +kernel); (decide +kernel); (decide +kernel); exact rfl; exact rfl; exact rfl; exact bodyPost_put; exact rfl; (first | exact True.intro | (exact phi) | skip); exact rfl)
      | ((with_reducible apply ASat.takeR (X := X64) 12); (decide +kernel); (decide +kernel); (decide +kernel); exact rfl; exact rfl; exact rfl; exact bodyPost_put; exact rfl; (first | exact True.intro | (exact phi) | skip); exact rfl)
      | ((with_reducible apply ASat.takeR (X := X64) 14); (decide +kernel); (decide +kernel); (decide +kernel); exact rfl; exact rfl; exact rfl; exact bodyPost_put; exact rfl; (first | exact True.intro | (exact phi) | skip); exact rfl)
      | ((with_reducible apply ASat.takeR (X := X64) 15); (decide +kernel); (decide +kernel); (decide +kernel); exact rfl; exact rfl; exact rfl; exact bodyPost_put; exact rfl; (first | exact True.intro | (exact phi) | skip); exact rfl)
      | ((with_reducible apply ASat.takeR (X := X64) 16); (decide +kernel); (decide +kernel); (decide +kernel); exact rfl; exact rfl; exact rfl; exact bodyPost_put; exact rfl; (first | exact True.intro | (exact phi) | skip); exact rfl)
      | ((with_reducible apply ASat.takeR (X := X64) 18); (decide +kernel); (decide +kernel); (decide +kernel); exact rfl; exact rfl; exact rfl; exact bodyPost_put; exact rfl; (first | exact True.intro | (exact phi) | skip); exact rfl)
      | ((with_reducible apply ASat.takeR (X := X64) 19); (decide +kernel); (decide +kernel); (decide +kernel); exact rfl; exact rfl; exact rfl; exact bodyPost_put; exact rfl; (first | exact True.intro | (exact phi) | skip); exact rfl)
      | ((with_reducible apply ASat.takeR (X := X64) 20); (decide +kernel); (decide +kernel); (decide +kernel); exact rfl; exact rfl; exact rfl; exact bodyPost_put; exact rfl; (first | exact True.intro | (exact phi) | skip); exact rfl)
      | ((with_reducible apply ASat.one 4); (decide +kernel))
      | ((with_reducible apply ASat.one 5); (decide +kernel))
      | ((with_reducible apply ASat.one 7); (decide +kernel))
      | ((with_reducible apply ASat.one 8); (decide +kernel))
      | ((with_reducible apply ASat.one 13); (decide +kernel))
      | ((with_reducible apply ASat.one 17); (decide +kernel))
      | ((with_reducible apply ASat.one 21); (decide +kernel))
      | ((with_reducible apply ASat.two 4 7); (decide +kernel))
      | ((with_reducible apply ASat.two 5 7); (decide +kernel)) | fail)
  · rcases hr with ⟨hrun, rfl, rfl⟩ | ⟨t, hrun, ⟨hb, rfl, rfl⟩ | ⟨hb, rfl, rfl⟩⟩
    · have h4 := run_do_no v s (L) hway (by omega) hok hrun
      unfold runA at h4
      rw [hL2] at h4
      repeat' (first
        | ((with_reducible apply Sat.run (X := X64)); exact rfl; (first | exact True.intro | (exact phi) | skip))
        | ((with_reducible apply Sat.cond_t); exact rfl)
        | ((with_reducible apply Sat.mf (h4)); exact rfl; exact rfl; kernel_rfl; exact rfl; exact rfl; exact rfl; ((repeat' (first | exact AllP.nil | with_reducible refine AllP.cons ?_ ?_)) <;> (first | exact rfl | exact True.intro | assumption | exact purX | omega | (simp only [List.length_cons, List.length_nil, List.length_append]; omega))); exact rfl) | fail)
      refine Sat.fin (Sat.end2 rfl rfl rfl rfl True.intro True.intro (by apply Conv.agg; exact cnvX) (.refl _ trivial) (.inl rfl) (fun _ h => h)) rfl
    · have h4 := run_do_yes v s t (L) hway (by omega) hok hrun
      unfold runA at h4
      rw [hL2] at h4
      repeat' (first
        | ((with_reducible apply Sat.run (X := X64)); exact rfl; (first | exact True.intro | (exact phi) | skip))
        | ((with_reducible apply Sat.cond_f); exact rfl)
        | ((with_reducible apply Sat.cond); exact rfl; all_goals intro h)
        | ((with_reducible apply Sat.mf (h4)); exact rfl; exact rfl; kernel_rfl; exact rfl; exact rfl; exact rfl; ((repeat' (first | exact AllP.nil | with_reducible refine AllP.cons ?_ ?_)) <;> (first | exact rfl | exact True.intro | assumption | exact purX | omega | (simp only [List.length_cons, List.length_nil, List.length_append]; omega))); exact rfl) | fail)
      · refine Sat.fin (Sat.end2 rfl rfl rfl rfl True.intro True.intro (by apply Conv.agg; exact cnvX) (.refl _ trivial) (.inl rfl) (fun _ h => h)) rfl
      · exfalso
        have q := (big_iff t.vals.length t.kept.length).2 hb
        rw [h] at q
        cases q
    · have h4 := run_do_yes v s t (L) hway (by omega) hok hrun
      have hq1 := pur_val t.vals
      have hq2 := pur_val t.kept
      unfold runA at h4
      rw [hL2] at h4
      repeat' (first
        | ((with_reducible apply Sat.run (X := X64)); exact rfl; (first | exact True.intro | (exact phi) | skip))
        | ((with_reducible apply Sat.cond_f); exact rfl)
        | ((with_reducible apply Sat.cond); exact rfl; all_goals intro h)
        | ((with_reducible apply Sat.mf (h4)); exact rfl; exact rfl; kernel_rfl; exact rfl; exact rfl; exact rfl; ((repeat' (first | exact AllP.nil | with_reducible refine AllP.cons ?_ ?_)) <;> (first | exact rfl | exact True.intro | assumption | exact purX | omega | (simp only [List.length_cons, List.length_nil, List.length_append]; omega))); exact rfl) | fail)
      · exact absurd ((big_iff t.vals.length t.kept.length).1 h) hb
      · refine Sat.fin (Sat.end2 rfl rfl rfl rfl True.intro True.intro (by apply Conv.agg; exact cnvX) (.refl _ trivial) (.inl rfl) (fun _ h => h)) rfl
theorem mig_undo (s : SetL) (L : List RuleL) (v : Int) (hs : ValidS s) (hL : L.length ≤ 8) (hall : ∀ i, i < L.length → rightR (L.getD i r00) = true) (hv : 0 ≤ v ∧ v ≤ 60000) (e : Int) (r : SetL)
    (hr : (runL undoS s L.reverse = none ∧ r = zeroS ∧ e = 231) ∨ (∃ t, runL undoS s L.reverse = some t ∧ (((16 < t.vals.length ∨ 16 < t.kept.length) ∧ r = zeroS ∧ e = 2) ∨ (¬ (16 < t.vals.length ∨ 16 < t.kept.length) ∧ r = verS v t ∧ e = 0)))) : Fun Tryz.prog [] 37 [s.v, .ro (ruleE L), .int .i64 v, .bool true] (.tup [r.v, .int .i64 e]) := by
  have h1 := Valid_spec s
  rw [(validS_iff s).2 hs] at h1
  have hc : (bif bif !true then true else decide (v < 0) then true else decide (60000 < v)) = false := by
    rw [decide_eq_false (show ¬ v < 0 by omega), decide_eq_false (show ¬ 60000 < v by omega)]
    rfl
  have h2 := rules_yes L (by omega) hall
  rw [decide_eq_true hL] at h2
  have h3 := rev_mf L (by omega)
  have hL2 : (L.reverse).length = L.length := by simp
  have hpv1 := pur_val s.vals
  have hpv2 := pur_val s.kept
  have hn1 : s.vals.length ≤ 1000000 := by have := hs.few; omega
  have hn2 : s.kept.length ≤ 1000000 := by have := hs.few; omega
  have hok : ∀ i, i < (L.reverse).length → RuleOk ((L.reverse).getD i r00) := fun i hi => by
    have hm : (L.reverse).getD i r00 ∈ L := by
      rw [List.getD_eq_getElem?_getD, List.getElem?_eq_getElem hi]
      exact (by simp)
    obtain ⟨j, hj, hje⟩ := List.mem_iff_getElem.1 hm
    have := hall j hj
    rw [List.getD_eq_getElem?_getD, List.getElem?_eq_getElem hj, Option.getD_some, hje] at this
    exact (rightR_ok this).1
  have hway : Way undoS s (L.reverse) 0 s := ⟨Nat.zero_le _, rfl, hs.rise, by have := hs.few; omega, by have := hs.few; omega⟩
  refine Fun.mk 7 Tryz.func37 rfl Tryz.ntmps37 rfl rfl fun T w0 => ?_
  repeat' (first
    | ((with_reducible apply Sat.makeM); exact rfl)
    | (rw [hc])
    | ((with_reducible apply Sat.run (X := X64)); exact rfl; (first | exact True.intro | (exact phi) | skip))
    | ((with_reducible apply Sat.cond_t); exact rfl)
    | ((with_reducible apply Sat.cond_f); exact rfl)
    | ((with_reducible apply Sat.callR (h1)); exact rfl; exact rfl; exact rfl; kernel_rfl; (exact cnvX); exact rfl)
    | ((with_reducible apply Sat.mf (h2)); exact rfl; exact rfl; kernel_rfl; exact rfl; exact rfl; exact rfl; ((repeat' (first | exact AllP.nil | with_reducible refine AllP.cons ?_ ?_)) <;> (first | exact rfl | exact True.intro | assumption | exact purX | omega | (simp only [List.length_cons, List.length_nil, List.length_append]; omega))); exact rfl)
    | ((with_reducible apply Sat.mf (h3)); exact rfl; exact rfl; kernel_rfl; exact rfl; exact rfl; exact rfl; ((repeat' (first | exact AllP.nil | with_reducible refine AllP.cons ?_ ?_)) <;> (first | exact rfl | exact True.intro | assumption | exact purX | omega | (simp only [List.length_cons, List.length_nil, List.length_append]; omega))); exact rfl) | fail)
  apply V.cutP
  · intro hP
    repeat' (first
      | ((with_reducible apply Sat.clnCall rfl rfl hn2 (by kernel_rfl) rfl))
      | ((with_reducible apply Sat.clnCall rfl rfl hn1 (by kernel_rfl) rfl))
      | ((with_reducible apply Sat.run (X := X64)); exact rfl; (first | exact True.intro | (exact phi) | skip))
      | ((with_reducible apply Sat.anyN 22); exact rfl; kernel_rfl)
      | ((with_reducible apply ASat.done); (decide +kernel); exact hP.out)
      | ((with_reducible apply AOp.of); exact rfl)
      | (with_reducible apply ASat.back)
      | ((with_reducible apply ASat.takeR (X := X64) 0); (decide +kernel); (decide +kernel); (decide +kernel); exact rfl; exact rfl; exact rfl; exact bodyPost_put; exact rfl; (first | exact True.intro | (exact phi) | skip); exact rfl)
      | ((with_reducible apply ASat.takeR (X := X64) 1); (decide +kernel); (decide +kernel); (decide +kernel); exact rfl; exact rfl; exact rfl; exact bodyPost_put; exact rfl; (first | exact True.intro | (exact phi) | skip); exact rfl)
      | ((with_reducible apply ASat.takeR (X := X64) 2); (decide +kernel); (decide +kernel); (decide +kernel); exact rfl; exact rfl; exact rfl; exact bodyPost_put; exact rfl; (first | exact True.intro | (exact phi) | skip); exact rfl)
      | ((with_reducible apply ASat.takeR (X := X64) 3); (decide +kernel); (decide +kernel); (decide +kernel); exact rfl; exact rfl; exact rfl; exact bodyPost_put; exact rfl; (first | exact True.intro | (exact phi) | skip); exact rfl)
      | ((with_reducible apply ASat.takeR (X := X64) 6); (decide +kernel); (decide +kernel); (decide +kernel); exact rfl; exact rfl; exact rfl; exact bodyPost_put; exact rfl; (first | exact True.intro | (exact phi) | skip); exact rfl)
      | ((with_reducible apply ASat.takeR (X := X64) 9); (decide +kernel); (decide +kernel); (decide +kernel); exact rfl; exact rfl; exact rfl; exact bodyPost_put; exact rfl; (first | exact True.intro | (exact phi) | skip); exact rfl)
      | ((with_reducible apply ASat.takeR (X := X64) 10); (decide +kernel); (decide +kernel); (decide +kernel); exact rfl; exact rfl; exact rfl; exact bodyPost_put; exact rfl; (first | exact True.intro | (exact phi) | skip); exact rfl)
      | ((with_reducible apply ASat.takeR (X := X64) 11); (decide +kernel); (decide +kernel); (decide +kernel); exact rfl; exact rfl; exact rfl; exact bodyPost_put; exact rfl; (first | exact True.intro | (exact phi) | skip); exact rfl)
      | ((with_reducible apply ASat.takeR (X := X64) 12); (decide +kernel); (decide +kernel); (decide +kernel); exact rfl; exact rfl; exact rfl; exact bodyPost_put; exact rfl; (first | exact True.intro | (exact phi) | skip); exact rfl)
      | ((with_reducible apply ASat.takeR (X := X64) 14); (decide +kernel); (decide +kernel); (decide +kernel); exact rfl; exact rfl; exact rfl; exact bodyPost_put; exact rfl; (first | exact True.intro | (exact phi) | skip); exact rfl)
      | ((with_reducible apply ASat.takeR (X := X64) 15); (decide +kernel); (decide +kernel); (decide +kernel); exact rfl; exact rfl; exact rfl; exact bodyPost_put; exact rfl; (first | exact True.intro | (exact phi) | skip); exact rfl)
      | ((with_reducible apply ASat.takeR (X := X64) 16); (decide +kernel); (decide +kernel); (decide +kernel); exact rfl; exact rfl; exact rfl; exact bodyPost_put; exact rfl; (first | exact True.intro | (exact phi) | skip); exact rfl)
      | ((with_reducible apply ASat.takeR (X := X64) 18); (decide +kernel); (decide +kernel); (decide +kernel); exact rfl; exact rfl; exact rfl; exact bodyPost_put; exact rfl; (first | exact True.intro | (exact phi) | skip); exact rfl)
      | ((with_reducible apply ASat.takeR (X := X64) 19); (decide +kernel); (decide +kernel); (decide +kernel); exact rfl; exact rfl; exact rfl; exact bodyPost_put; exact rfl; (first | exact True.intro | (exact phi) | skip); exact rfl)
      | ((with_reducible apply ASat.takeR (X := X64) 20); (decide +kernel); (decide +kernel); (decide +kernel); exact rfl; exact rfl; exact rfl; exact bodyPost_put; exact rfl; (first | exact True.intro | (exact phi) | skip); exact rfl)
      | ((with_reducible apply ASat.one 4); (decide +kernel))
      | ((with_reducible apply ASat.one 5); (decide +kernel))
      | ((with_reducible apply ASat.one 7); (decide +kernel))
      | ((with_reducible apply ASat.one 8); (decide +kernel))
      | ((with_reducible apply ASat.one 13); (decide +kernel))
      | ((with_reducible apply ASat.one 17); (decide +kernel))
      | ((with_reducible apply ASat.one 21); (decide +kernel))
      | ((with_reducible apply ASat.two 4 7); (decide +kernel))
      | ((with_reducible apply ASat.two 5 7); (decide +kernel)) | fail)
  · rcases hr with ⟨hrun, rfl, rfl⟩ | ⟨t, hrun, ⟨hb, rfl, rfl⟩ | ⟨hb, rfl, rfl⟩⟩
    · have h4 := run_undo_no v s (L.reverse) hway (by omega) hok hrun
      unfold runA at h4
      rw [hL2] at h4
      repeat' (first
        | ((with_reducible apply Sat.run (X := X64)); exact rfl; (first | exact True.intro | (exact phi) | skip))
        | ((with_reducible apply Sat.cond_t); exact rfl)
        | ((with_reducible apply Sat.mf (h4)); exact rfl; exact rfl; kernel_rfl; exact rfl; exact rfl; exact rfl; ((repeat' (first | exact AllP.nil | with_reducible refine AllP.cons ?_ ?_)) <;> (first | exact rfl | exact True.intro | assumption | exact purX | omega | (simp only [List.length_cons, List.length_nil, List.length_append]; omega))); exact rfl) | fail)
      refine Sat.fin (Sat.end2 rfl rfl rfl rfl True.intro True.intro (by apply Conv.agg; exact cnvX) (.refl _ trivial) (.inl rfl) (fun _ h => h)) rfl
    · have h4 := run_undo_yes v s t (L.reverse) hway (by omega) hok hrun
      unfold runA at h4
      rw [hL2] at h4
      repeat' (first
        | ((with_reducible apply Sat.run (X := X64)); exact rfl; (first | exact True.intro | (exact phi) | skip))
        | ((with_reducible apply Sat.cond_f); exact rfl)
        | ((with_reducible apply Sat.cond); exact rfl; all_goals intro h)
        | ((with_reducible apply Sat.mf (h4)); exact rfl; exact rfl; kernel_rfl; exact rfl; exact rfl; exact rfl; ((repeat' (first | exact AllP.nil | with_reducible refine AllP.cons ?_ ?_)) <;> (first | exact rfl | exact True.intro | assumption | exact purX | omega | (simp only [List.length_cons, List.length_nil, List.length_append]; omega))); exact rfl) | fail)
      · refine Sat.fin (Sat.end2 rfl rfl rfl rfl True.intro True.intro (by apply Conv.agg; exact cnvX) (.refl _ trivial) (.inl rfl) (fun _ h => h)) rfl
      · exfalso
        have q := (big_iff t.vals.length t.kept.length).2 hb
        rw [h] at q
        cases q
    · have h4 := run_undo_yes v s t (L.reverse) hway (by omega) hok hrun
      have hq1 := pur_val t.vals
      have hq2 := pur_val t.kept
      unfold runA at h4
      rw [hL2] at h4
      repeat' (first
        | ((with_reducible apply Sat.run (X := X64)); exact rfl; (first | exact True.intro | (exact phi) | skip))
        | ((with_reducible apply Sat.cond_f); exact rfl)
        | ((with_reducible apply Sat.cond); exact rfl; all_goals intro h)
        | ((with_reducible apply Sat.mf (h4)); exact rfl; exact rfl; kernel_rfl; exact rfl; exact rfl; exact rfl; ((repeat' (first | exact AllP.nil | with_reducible refine AllP.cons ?_ ?_)) <;> (first | exact rfl | exact True.intro | assumption | exact purX | omega | (simp only [List.length_cons, List.length_nil, List.length_append]; omega))); exact rfl) | fail)
      · exact absurd ((big_iff t.vals.length t.kept.length).1 h) hb
      · refine Sat.fin (Sat.end2 rfl rfl rfl rfl True.intro True.intro (by apply Conv.agg; exact cnvX) (.refl _ trivial) (.inl rfl) (fun _ h => h)) rfl
theorem mig_eq_do (s : SetL) (L : List RuleL) (v : Int) (hL : L.length ≤ 1000000) : Fun Tryz.prog [] 37 [s.v, .ro (ruleE L), .int .i64 v, .bool false] (.tup [(fwdS s L v).1.v, .int .i64 (fwdS s L v).2]) := by
  unfold fwdS migS
  by_cases h1 : validS s = false ∨ ¬ (0 ≤ v ∧ v ≤ 60000)
  · rw [if_pos h1]; exact mig_arg s L v false h1
  · rw [if_neg h1]
    simp only [not_or, Decidable.not_not, Bool.not_eq_false] at h1
    have hs := (validS_iff s).1 h1.1
    by_cases h2 : ¬ (L.all rightR = true ∧ L.length ≤ 8)
    · rw [if_pos h2]
      exact mig_rule s L v false hs h1.2 hL fun q => h2 ⟨(all_iff L rightR r00).2 q.1, q.2⟩
    · rw [if_neg h2]
      rw [Decidable.not_not] at h2
      have ha := (all_iff L rightR r00).1 h2.1
      cases hrun : runL doS s L with
      | none => exact mig_do s L v hs h2.2 ha h1.2 231 zeroS (.inl ⟨hrun, rfl, rfl⟩)
      | some t =>
        dsimp only
        by_cases hb : 16 < t.vals.length ∨ 16 < t.kept.length
        · rw [if_pos hb]; exact mig_do s L v hs h2.2 ha h1.2 2 zeroS (.inr ⟨t, hrun, .inl ⟨hb, rfl, rfl⟩⟩)
        · rw [if_neg hb]; exact mig_do s L v hs h2.2 ha h1.2 0 _ (.inr ⟨t, hrun, .inr ⟨hb, rfl, rfl⟩⟩)
theorem mig_eq_undo (s : SetL) (L : List RuleL) (v : Int) (hL : L.length ≤ 1000000) : Fun Tryz.prog [] 37 [s.v, .ro (ruleE L), .int .i64 v, .bool true] (.tup [(backS s L v).1.v, .int .i64 (backS s L v).2]) := by
  unfold backS migS
  by_cases h1 : validS s = false ∨ ¬ (0 ≤ v ∧ v ≤ 60000)
  · rw [if_pos h1]; exact mig_arg s L v true h1
  · rw [if_neg h1]
    simp only [not_or, Decidable.not_not, Bool.not_eq_false] at h1
    have hs := (validS_iff s).1 h1.1
    by_cases h2 : ¬ (L.all rightR = true ∧ L.length ≤ 8)
    · rw [if_pos h2]
      exact mig_rule s L v true hs h1.2 hL fun q => h2 ⟨(all_iff L rightR r00).2 q.1, q.2⟩
    · rw [if_neg h2]
      rw [Decidable.not_not] at h2
      have ha := (all_iff L rightR r00).1 h2.1
      cases hrun : runL undoS s L.reverse with
      | none => exact mig_undo s L v hs h2.2 ha h1.2 231 zeroS (.inl ⟨hrun, rfl, rfl⟩)
      | some t =>
        dsimp only
        by_cases hb : 16 < t.vals.length ∨ 16 < t.kept.length
        · rw [if_pos hb]; exact mig_undo s L v hs h2.2 ha h1.2 2 zeroS (.inr ⟨t, hrun, .inl ⟨hb, rfl, rfl⟩⟩)
        · rw [if_neg hb]; exact mig_undo s L v hs h2.2 ha h1.2 0 _ (.inr ⟨t, hrun, .inr ⟨hb, rfl, rfl⟩⟩)
theorem Fwd_spec (s : SetL) (L : List RuleL) (v : Int) (hL : L.length ≤ 1000000) : Fun Tryz.prog [] 15 [s.v, .ro (ruleE L), .int .i64 v] (.tup [(fwdS s L v).1.v, .int .i64 (fwdS s L v).2]) := by
  have h := mig_eq_do s L v hL
  refine Fun.mk 6 Tryz.func15 rfl Tryz.ntmps15 rfl rfl fun T w0 => ?_
  repeat' (first
    | ((with_reducible apply Sat.run (X := X64)); exact rfl; (first | exact True.intro | (exact phi) | skip))
    | ((with_reducible apply Sat.call (h)); exact rfl; exact rfl; kernel_rfl; (exact cnvX); exact rfl) | fail)
  refine Sat.fin (Sat.end2 rfl rfl rfl rfl True.intro True.intro (.refl _ (pur_s _)) (.refl _ trivial) (.inl rfl) (fun _ h => h)) rfl
theorem Bck_spec (s : SetL) (L : List RuleL) (v : Int) (hL : L.length ≤ 1000000) : Fun Tryz.prog [] 17 [s.v, .ro (ruleE L), .int .i64 v] (.tup [(backS s L v).1.v, .int .i64 (backS s L v).2]) := by
  have h := mig_eq_undo s L v hL
  refine Fun.mk 6 Tryz.func17 rfl Tryz.ntmps17 rfl rfl fun T w0 => ?_
  repeat' (first
    | ((with_reducible apply Sat.run (X := X64)); exact rfl; (first | exact True.intro | (exact phi) | skip))
    | ((with_reducible apply Sat.call (h)); exact rfl; exact rfl; kernel_rfl; (exact cnvX); exact rfl) | fail)
  refine Sat.fin (Sat.end2 rfl rfl rfl rfl True.intro True.intro (.refl _ (pur_s _)) (.refl _ trivial) (.inl rfl) (fun _ h => h)) rfl
end Go.Proofs.YtpbgihhfcdggkaaGreatDoor
end
section
namespace Go.Proofs.YtpbgihhfcdggkaaGreatDoor.V
open Go.RowKit
set_option maxRecDepth 100000
set_option maxHeartbeats 4000000
set_option linter.unusedVariables false
set_option linter.unusedSectionVars false
set_option linter.unusedSimpArgs false
section
variable {C : Ctx} {Q0 : Exit → Act → World → Prop} {F F' : Tr} {M : Mem} {ids : List Nat} {U : Nat → Prop} {E : Env} {a : Act} {w : World} {k : List Kont}
theorem bs_run {T : Nat → Prop} (hvw : Vw C.Γ F M E T a w) {t elem n sz : Nat} {ps : List (Nat × Operand)} {l : List (Nat × SV)} {zv : Value} {e : EV} {o : Oper} (hu : C.P.underlying t = some (.slice elem)) (hs : sizeF C.P elem = some (sz + 1)) (hz : (C.P.info? elem).bind (·.zero) = some zv)
    (hsmall : Nat.ble (n * (sz + 1)) 16777216 = true) (hp : partsF C.Γ F ps = some l) (he : litE C.P elem n (sz + 1) l = some e) (ho : o.op = .buildSlice t n ⟨ps⟩) :
    ∃ xs : List (List Value), (execOp a.eval o).run C.P w = .ok (.value (.slice (some ⟨w.heap.size, 0, none⟩) n n)) (w.alloc (.cells xs.flatten.toArray elem)) ∧ e.len = n ∧ e.sz = sz + 1 ∧ xs.length = n ∧ (∀ x ∈ xs, x.length = sz + 1) ∧ ∀ i, i < n → Items E T w (e.items i) (xs.getD i []) := by
  have hsm := Nat.le_of_ble_eq_true hsmall
  obtain ⟨i, hi, hiz⟩ := bind_zero hz
  obtain ⟨i', hi', his⟩ := sizeF_info hs
  rw [hi] at hi'
  cases hi'
  obtain ⟨k1, k2, xs, k3, k4, k5, k6⟩ := litE_ok he (partsF_ok hvw hp)
  refine ⟨xs, ?_, k1, k2, k4, k5, k6⟩
  have hfill : ∀ cs : List Value, cs.length = n * (sz + 1) → Instr.fill (fun i => some (i * (sz + 1), sz + 1)) cs.toArray (ps.map fun p => (p.1, a.eval p.2)) = some xs.flatten.toArray := fun cs hcs => by
    have hvl := k3.len
    have := fill_enum (cs := cs) k3 k5 (by rw [hcs, ← hvl, k4, Nat.zero_add]; exact Nat.le_refl _)
    rw [this]
    have e1 : (0 + (ps.map fun p => (p.1, a.eval p.2)).length) * (sz + 1) = cs.length := by rw [hcs, ← hvl, k4, Nat.zero_add]
    rw [e1]
    simp
  have hargs : (Array.map (fun x => match x with | (i, x) => (i, a.eval x)) ⟨ps⟩) = (ps.map fun p => (p.1, a.eval p.2)).toArray := by simp
  have hbs : (Instr.buildSlice t n (ps.map fun p => (p.1, a.eval p.2)).toArray).run C.P w = .ok (.slice (some ⟨w.heap.size, 0, none⟩) n n) (w.alloc (.cells xs.flatten.toArray elem)) := by
    by_cases hn : n * (sz + 1) = 0
    · have hn0 : n = 0 := by
        rcases Nat.mul_eq_zero.1 hn with h | h
        · exact h
        · omega
      subst hn0
      have hxs : xs = [] := List.eq_nil_of_length_eq_zero k4
      have hps : ps = [] := List.eq_nil_of_length_eq_zero (by have := k3.len; rw [k4] at this; simpa using this.symm)
      subst hxs
      subst hps
      simp [Instr.buildSlice, run_underlying hu, run_sizeOf hs, newRow, Instr.fill, Array.range_zero']
    · have hf := hfill ((Array.range (n * (sz + 1))).map (zv.cells[· % zv.cells.size]!)).toList (by rw [Array.length_toList, Array.size_map, Array.size_range])
      rw [Array.toArray_toList] at hf
      have hs1 : ¬ n * i.size > 2 ^ 24 := by rw [his]; omega
      have hs2 : ¬ n * i.size = 0 := by rw [his]; exact hn
      have hf2 : Instr.fill (fun j => some (j * i.size, i.size)) ((Array.range (n * i.size)).map (zv.cells[· % zv.cells.size]!)) (ps.map fun p => (p.1, a.eval p.2)).toArray.toList = some xs.flatten.toArray := by rw [his]; exact hf
      have hq := run_buildSlice (P := C.P) w t elem n (ps.map fun p => (p.1, a.eval p.2)).toArray xs.flatten.toArray i zv hu hi hiz
      have hq2 := hq hs1
      have hq3 := hq2 hs2
      have hq4 := hq3 hf2
      exact hq4
  unfold execOp
  simp only [ho, hargs, Sem.run_bind, hbs]
  rfl
theorem bs_rep {T : Nat → Prop} {elem n sz : Nat} {e : EV} {xs : List (List Value)} (hT : ∀ b, T b → b < w.heap.size) (k1 : e.len = n) (k2 : e.sz = sz + 1) (k4 : xs.length = n) (k5 : ∀ x ∈ xs, x.length = sz + 1) (k6 : ∀ i, i < n → Items E T w (e.items i) (xs.getD i [])) (hok : okLen n) :
    Rep E T (w.alloc (.cells xs.flatten.toArray elem)) (.ro e) (.slice (some ⟨w.heap.size, 0, none⟩) n n) := by
  have hb : Below w.heap.size w (w.alloc (.cells xs.flatten.toArray elem)) := (Below.refl _ w).alloc (Nat.le_refl _) _
  subst k1
  refine .ro e w.heap.size 0 _ _ (fun i => xs.getD i []) (fun h => by have := hT _ h; omega) (fun i hi => ?_) (fun i j v hi hj => ?_) (fun i hi => (k6 i hi).mono (fun _ _ h => h) (fun _ _ h => h) (Chg.of_below hb)) rfl (Nat.le_refl _) hok (by show w.heap.size < (w.heap.push _).size; rw [Array.size_push]; exact Nat.lt_succ_self _)
  · rw [k2]
    rw [← k4] at hi
    have : xs.getD i [] = xs[i] := by simp [List.getD, List.getElem?_eq_getElem hi]
    rw [this]
    exact k5 _ (List.getElem_mem hi)
  · have h1 := flat_get k5 (by rw [k4]; exact hi) hj
    rw [← k2] at h1
    simp only [World.cell?, heap_alloc_new, Nat.zero_add]
    simpa using h1
theorem pure_lit1 {sz : Nat} (l : List SV) (h : pureL l) : pureE (.g 1 sz (litF 1 sz [l])) := fun i hi => match i, hi with
  | 0, _ => h
theorem DSat.litRo {i : Nat} {full rest : List Oper} {F0 : Tr} {M0 : Mem} {ids0 : List Nat} {hist : List Ent} {d : Option Tmp} {t elem n sz : Nat} {ps : List (Nat × Operand)} {l : List (Nat × SV)} {zv : Value} {e : EV} {type : TypeId} {pos : String} {after : Array Edge}
    (hn : C.wide = false) (hu : C.P.underlying t = some (.slice elem)) (hs : sizeF C.P elem = some (sz + 1)) (hz : (C.P.info? elem).bind (·.zero) = some zv)
    (hsmall : Nat.ble (n * (sz + 1)) 16777216 = true) (hq : partsF C.Γ F ps = some l) (he : litE C.P elem n (sz + 1) l = some e) (hpe : pureE e) (hp : putD C.N F d (some (.ro e)) some = some F')
    (h : DSat C Q0 k full F0 M0 ids0 (i + 1) (⟨i, d, some (.ro e), none, [], [], false⟩ :: hist) rest F' M ids) :
    DSat C Q0 k full F0 M0 ids0 i hist (⟨d, .buildSlice t n ⟨ps⟩, type, pos, after, none⟩ :: rest) F M ids := by
  intro D
  obtain ⟨F1, h1, h2⟩ := putD_inv hp
  cases h1
  obtain ⟨p1, p2⟩ := putD_get h2
  refine h (D.step (fun ho Q K Fa Ma U E a w q1 q2 _ q3 hst hK => ?_) rfl rfl p2 (fun id => rfl) rfl)
  refine wpOp_plain ho rfl ?_
  unfold Oper.wp
  have hle := looks_le (C := C) (F := F) q1 fun _ => rfl
  have hok : okLen n := by
    have hsm := Nat.le_of_ble_eq_true hsmall
    have : n * 1 ≤ n * (sz + 1) := Nat.mul_le_mul_left _ (by omega)
    unfold okLen
    omega
  obtain ⟨xs, hrun, k1, k2, k4, k5, k6⟩ := bs_run (o := ⟨d, .buildSlice t n ⟨ps⟩, type, pos, after, none⟩) hst.vw hu hs hz hsmall (partsF_le (fun y hy => hle y (by simpa [Op.operands] using hy)) hq) he rfl
  have hr := bs_rep (elem := elem) (hst.lt hn) k1 k2 k4 k5 k6 hok
  have hb : Below w.heap.size w (w.alloc (.cells xs.flatten.toArray elem)) := (Below.refl _ w).alloc (Nat.le_refl _) _
  rw [hrun]
  obtain ⟨F2, hF2⟩ := tr_put Fa d (some (.ro e))
  exact hK F2 Ma U E _ _ hF2 (fun id => rfl) (fun k => by simp) ((hst.below hb).putG p1 hF2 fun s' hs' => by cases hs'; exact hr)
theorem DSat.step1 {X : IntKind → Bool} {i : Nat} {full rest : List Oper} {F0 F1 : Tr} {M0 M1 : Mem} {ids0 ids1 : List Nat} {hist : List Ent} {o : Oper} {e : Ent} {φ : List Prop}
    (hs : dstep X C.P C.Γ C.N full i o F M ids = some ⟨e, F1, M1, ids1, φ⟩) (hφ : AllP φ) (hn : DSat C Q0 k full F0 M0 ids0 (i + 1) (e :: hist) rest F1 M1 ids1) : DSat C Q0 k full F0 M0 ids0 i hist (o :: rest) F M ids := by
  intro D
  have ho : full[i]? = some o := by simpa using (D.rest 0).symm
  obtain ⟨p1, p2, p3, p4, p5, p6⟩ := dstep_ok ho hs hφ.all
  exact hn (D.step (fun _ => p1) p2 p3 p4 p5 p6)
end
end Go.Proofs.YtpbgihhfcdggkaaGreatDoor.V
end
section
namespace Go.Proofs.YtpbgihhfcdggkaaGreatDoor
open Go.RowKit V
set_option maxRecDepth 100000
set_option maxHeartbeats 4000000
set_option linter.unusedSimpArgs false
set_option linter.unusedVariables false
attribute [local irreducible] V.Sat V.DSat V.SatP V.ASat V.AOp
theorem gx2 {P : Program} {Γ : Glob} {f : FuncId} {a c res : SV} {n sz : Nat} {f1 : Nat → List SV} (f2 : Nat → List SV) (h : Fun P Γ f [a, .ro (.g n sz f1), c] res) (he : ∀ i, i < n → f2 i = f1 i) : Fun P Γ f [a, .ro (.g n sz f2), c] res := by
  intro T w vs hT hG ht
  cases ht with
  | cons s v l vs1 hr hl =>
    cases hl with
    | cons s1 v1 l1 vs2 hr1 hl1 => exact h T w _ hT hG (.cons _ _ _ _ hr (.cons _ _ _ _ (rep_gx hr1 he) hl1))
theorem Sat.reR {C : Ctx} {Q0 : Exit → Act → World → Prop} {full rest : List Oper} {F : Tr} {M M' : Mem} {ids : List Nat} {k : List Kont} {i : Nat} {t : TypeId} {e : EV} (e' : EV) (hf : find M i = some (.row t e)) (hM : upd M i (.row t e') = some M') (hl : e'.len ≤ e.len) (hs : e'.sz = e.sz) (hi : ∀ x, x < e'.len → e'.items x = e.items x) (h : Sat C Q0 (.reg full rest F M' ids k)) : Sat C Q0 (.reg full rest F M ids k) := by
  unfold Sat at h ⊢
  exact fun U E a w hsup hst => h U E a w hsup (hst.reE hf hM hl hs hi)
def sampleS : SetL := ⟨1, [⟨[97], [49]⟩, ⟨[98], [50]⟩], []⟩
def wantS : SetL := ⟨2, [⟨[98], [51]⟩, ⟨[99], [49]⟩], [⟨[98], [50]⟩, val0]⟩
def rulesL : List RuleL := [⟨1, [97], [99], []⟩, ⟨2, [98], [], [51]⟩, ⟨3, [100], [], []⟩]
theorem sample_valid : ValidS sampleS := (validS_iff _).1 (by decide)
theorem want_valid : ValidS wantS := (validS_iff _).1 (by decide)
theorem fwd_sample : fwdS sampleS rulesL 2 = (wantS, 0) := by rfl
theorem back_want : backS wantS rulesL 1 = (sampleS, 0) := by rfl
theorem ref1 : fwdS sampleS [⟨1, [120], [121], []⟩] 2 = (zeroS, 231) := by rfl
theorem ref2 : fwdS sampleS [⟨1, [97], [98], []⟩] 2 = (zeroS, 231) := by rfl
theorem ref3 : fwdS sampleS [⟨1, [97], [97], []⟩] 2 = (zeroS, 230) := by rfl
theorem ref4 : fwdS sampleS [⟨3, [], [], []⟩] 2 = (zeroS, 230) := by rfl
theorem get1 : getB sampleS [98] = ([50], 0) := by rfl
theorem get2 : getB sampleS [99] = ([], 231) := by rfl
def textL : List UInt8 := [115, 101, 116, 116, 105, 110, 103, 115, 32, 49, 10, 118, 97, 108, 32, 97, 32, 49, 10, 118, 97, 108, 32, 98, 32, 50, 10]
theorem text_sample : printS Lib.itoa sampleS = textL := by
  have e : Lib.itoa 1 = [49] := by simp [Lib.itoa, Lib.decDigits]
  unfold printS
  rw [if_pos ((validS_iff _).2 sample_valid)]
  show printD (Lib.itoa 1) _ _ = _
  rw [e]
  rfl
theorem text_want : printS Lib.itoa wantS = [115, 101, 116, 116, 105, 110, 103, 115, 32, 50, 10, 118, 97, 108, 32, 98, 32, 51, 10, 118, 97, 108, 32, 99, 32, 49, 10, 107, 101, 112, 116, 32, 98, 32, 50, 10, 107, 101, 112, 116, 32, 45, 10] := by
  have e : Lib.itoa 2 = [50] := by simp [Lib.itoa, Lib.decDigits]
  unfold printS
  rw [if_pos ((validS_iff _).2 want_valid)]
  show printD (Lib.itoa 2) _ _ = _
  rw [e]
  rfl
theorem parse_text : resP Lib.itoa readP textL = (sampleS, 0) := by
  rw [← text_sample]
  exact res_print Lib.itoa readP readP_print sample_valid
theorem joinB_last : ∀ (l : List (List UInt8)), l ≠ [] → (joinB l).getLast? = some 10
  | [], h => absurd rfl h
  | [x], _ => by simp [joinB]
  | x :: y :: l, _ => by
    have e : joinB (x :: y :: l) = (x ++ [10]) ++ joinB (y :: l) := rfl
    have ih := joinB_last (y :: l) (by simp)
    rw [e, List.getLast?_append, ih]
    rfl
theorem res_two (p : List UInt8 → SetL) (s : List UInt8) : resP Lib.itoa p s = (zeroS, 3) ∨ (resP Lib.itoa p s).2 = 0 := by
  unfold resP
  split
  · exact .inl rfl
  · exact .inr rfl
theorem parse_bad : resP Lib.itoa readP (textL ++ [107, 101, 112, 116, 32, 45]) = (zeroS, 3) := by
  rcases res_two readP (textL ++ [107, 101, 112, 116, 32, 45]) with h | h
  · exact h
  · exfalso
    have h1 := res_only Lib.itoa readP _ h
    generalize (resP Lib.itoa readP (textL ++ [107, 101, 112, 116, 32, 45])).1 = s at h1
    have h2 := congrArg List.getLast? h1
    unfold printS at h2
    split at h2
    · rw [show printD (Lib.itoa s.version) s.vals s.kept = joinB _ from rfl, joinB_last _ (by simp)] at h2
      revert h2
      decide
    · revert h2
      decide
theorem sample_spec : Fun Tryz.prog [] 32 [] sampleS.v := by
  refine Fun.mk 6 Tryz.func32 rfl Tryz.ntmps32 rfl rfl fun T w0 => ?_
  repeat' (first
    | ((with_reducible apply Sat.run (X := X64)); exact rfl; (first | exact True.intro | (exact phi) | skip)) | fail)
  refine Sat.fin (Sat.end1 rfl rfl rfl True.intro (.agg _ [.int .i64 1, .ro (valE sampleS.vals), .ro (valE [])] (.cons _ _ _ _ (.refl _ trivial) (.cons _ _ _ _ (.gx _ 2 2 (litF 2 2 [[SV.str [97], SV.str [49]], [SV.str [98], SV.str [50]]]) _ (.all 1 0 2 2 _ rfl rfl rfl (fun i hi => match i, hi with | 0, _ => ⟨trivial, trivial, trivial⟩ | 1, _ => ⟨trivial, trivial, trivial⟩)) (fun i hi => match i, hi with | 0, _ => rfl | 1, _ => rfl)) (.cons _ _ _ _ (.nils _ rfl) .nil)))) (.inl rfl) (fun _ h => h)) rfl
theorem refuses_spec (r : RuleL) (w : Int) (h : fwdS sampleS [r] 2 = (zeroS, w)) : Fun Tryz.prog [] 33 [.agg (ruleP r), .int .i64 w] (.bool true) := by
  have h0 := sample_spec
  have hpl : pureE (.g 1 (3 + 1) (litF 1 (3 + 1) [ruleP r])) := pure_lit1 _ (by simp [pureL, pureS, pureE])
  have h1 := gx2 (litF 1 (3 + 1) [ruleP r]) (Fwd_spec sampleS [r] 2 (by simp)) (fun i hi => match i, hi with | 0, _ => rfl)
  rw [h] at h1
  have h2 := same_spec zeroS zeroS
  rw [(sameS_iff zeroS zeroS).2 rfl] at h2
  refine Fun.mk 6 Tryz.func33 rfl Tryz.ntmps33 rfl rfl fun T w0 => ?_
  repeat' (first
    | ((with_reducible apply DSat.litRo); exact rfl; exact rfl; exact rfl; exact rfl; kernel_rfl; exact rfl; exact rfl; exact pure_lit1 _ (by simp [pureL, pureS, pureE]); exact rfl)
    | ((with_reducible apply DSat.step1 (X := X64)); exact rfl; (first | exact True.intro | (exact phi) | skip))
    | ((with_reducible apply Sat.run (X := X64)); exact rfl; (first | exact True.intro | (exact phi) | skip))
    | ((with_reducible apply Sat.drawn); kernel_rfl)
    | ((with_reducible apply DSat.fin); kernel_rfl)
    | ((with_reducible apply DSat.call (h0)); exact rfl; exact rfl; kernel_rfl; (exact cnvX); exact rfl)
    | ((with_reducible apply DSat.call (h1)); exact rfl; exact rfl; kernel_rfl; (exact cnvX); exact rfl)
    | ((with_reducible apply Sat.callG1 (h2)); exact rfl; exact rfl; exact rfl; exact rfl; kernel_rfl; (intro hG; (exact cnvX)); exact rfl) | fail)
  (refine Sat.fin (Sat.end1 rfl rfl rfl True.intro (.refl _ purX) (by first | exact .inl rfl | exact .inr rfl) (fun _ h => h)) ?_; (simp))
@[reducible] def litR : Nat → List SV := litF 3 (3 + 1) [[.int .i64 1, .str [97], .str [99], .str []], [.int .i64 2, .str [98], .str [], .str [51]], [.int .i64 3, .str [100], .str [], .str []]]
theorem litR_eq : ∀ i, i < 3 → litR i = ruleP (rulesL.getD i r00)
  | 0, _ => rfl
  | 1, _ => rfl
  | 2, _ => rfl
theorem pur_litR : pureE (.g 3 (3 + 1) litR) := fun i hi => by
  rw [litR_eq i hi]
  simp [pureL, pureS, pureE]
section
variable {a b : TypeId} {p q : Value}
theorem sanity_spec : Fun Tryz.prog (Γs a b p q) 11 [] (.bool true) := by
  have h0 := Fun.weak (Γ := Γs a b p q) sample_spec
  have h1 := parse_spec (a := a) (b := b) (p := p) (q := q) textL (by decide)
  rw [parse_text] at h1
  have h2 := parse_spec (a := a) (b := b) (p := p) (q := q) (textL ++ [107, 101, 112, 116, 32, 45]) (by decide)
  rw [parse_bad] at h2
  have h3 := gx2 litR (Fun.weak (Γ := Γs a b p q) (Fwd_spec sampleS rulesL 2 (by decide))) litR_eq
  rw [fwd_sample] at h3
  have h4 := gx2 litR (Fun.weak (Γ := Γs a b p q) (Bck_spec wantS rulesL 1 (by decide))) litR_eq
  rw [back_want] at h4
  have h5 := Fun.weak (Γ := Γs a b p q) (Get_spec sampleS [98] sample_valid.rise (by decide))
  rw [get1] at h5
  have h6 := Fun.weak (Γ := Γs a b p q) (Get_spec sampleS [99] sample_valid.rise (by decide))
  rw [get2] at h6
  have h7 := print_spec (a := a) (b := b) (p := p) (q := q) sampleS
  rw [text_sample] at h7
  have h8 := print_spec (a := a) (b := b) (p := p) (q := q) wantS
  rw [text_want] at h8
  have s1 := Fun.weak (Γ := Γs a b p q) (same_spec sampleS sampleS)
  rw [(sameS_iff _ _).2 rfl] at s1
  have s2 := Fun.weak (Γ := Γs a b p q) (same_spec wantS wantS)
  rw [(sameS_iff _ _).2 rfl] at s2
  have r1 := Fun.weak (Γ := Γs a b p q) (refuses_spec _ _ ref1)
  have r2 := Fun.weak (Γ := Γs a b p q) (refuses_spec _ _ ref2)
  have r3 := Fun.weak (Γ := Γs a b p q) (refuses_spec _ _ ref3)
  have r4 := Fun.weak (Γ := Γs a b p q) (refuses_spec _ _ ref4)
  have hpl := pur_litR
  refine Fun.mk 8 Tryz.func11 rfl Tryz.ntmps11 rfl rfl fun T w0 => ?_
  repeat' (first
    | ((with_reducible apply Sat.run (X := X64)); exact rfl; (first | exact True.intro | (exact phi) | skip))
    | ((with_reducible apply Sat.call (h0)); exact rfl; exact rfl; kernel_rfl; (exact cnvX); exact rfl)
    | ((with_reducible apply Sat.call (h1)); exact rfl; exact rfl; kernel_rfl; (exact cnvX); exact rfl)
    | ((with_reducible apply Sat.call (h2)); exact rfl; exact rfl; kernel_rfl; (exact cnvX); exact rfl) | fail)
  · exact AllP.cons (by show _ ≤ _; decide) .nil
  refine Sat.freezeR true 3 rfl ?_ ?_
  · (repeat' (first | exact AllP.nil | with_reducible refine AllP.cons ?_ ?_)) <;> first | exact rfl | exact hpl | exact trivial | exact ⟨rfl, rfl, rfl, rfl⟩ | exact .inl ⟨rfl, rfl, rfl⟩ | exact pur_val _ | trace_state
  repeat' (first
    | ((with_reducible apply Sat.run (X := X64)); exact rfl; (first | exact True.intro | (exact phi) | skip))
    | ((with_reducible apply Sat.call (h3)); exact rfl; exact rfl; kernel_rfl; (exact cnvX); exact rfl)
    | ((with_reducible apply Sat.call (h4)); exact rfl; exact rfl; kernel_rfl; (exact cnvX); exact rfl) | fail)
  refine Sat.reR (i := 6) (valE wantS.vals) rfl rfl (Nat.le_refl _) rfl (fun x hx => match x, hx with | 0, _ => rfl | 1, _ => rfl) ?_
  refine Sat.reR (i := 7) (valE wantS.kept) rfl rfl (Nat.le_refl _) rfl (fun x hx => match x, hx with | 0, _ => rfl | 1, _ => rfl) ?_
  have hpv1 := pur_val wantS.vals
  have hpv2 := pur_val wantS.kept
  have hpv3 := pur_val sampleS.vals
  have hpv4 := pur_val sampleS.kept
  repeat' (first
    | ((with_reducible apply Sat.run (X := X64)); exact rfl; (first | exact True.intro | (exact phi) | skip))
    | ((with_reducible apply Sat.callR (h5)); exact rfl; exact rfl; exact rfl; kernel_rfl; (exact cnvX); exact rfl)
    | ((with_reducible apply Sat.callR (h6)); exact rfl; exact rfl; exact rfl; kernel_rfl; (exact cnvX); exact rfl)
    | ((with_reducible apply Sat.callR (h7)); exact rfl; exact rfl; exact rfl; kernel_rfl; (exact cnvX); exact rfl)
    | ((with_reducible apply Sat.callG1 (h8)); exact rfl; exact rfl; exact rfl; exact rfl; kernel_rfl; (intro hG; (exact cnvX)); exact rfl)
    | ((with_reducible apply Sat.callG1 (s1)); exact rfl; exact rfl; exact rfl; exact rfl; kernel_rfl; (intro hG; (exact cnvX)); exact rfl)
    | ((with_reducible apply Sat.callG1 (s2)); exact rfl; exact rfl; exact rfl; exact rfl; kernel_rfl; (intro hG; (exact cnvX)); exact rfl)
    | ((with_reducible apply Sat.callG1 (r1)); exact rfl; exact rfl; exact rfl; exact rfl; kernel_rfl; (intro hG; (exact cnvX)); exact rfl)
    | ((with_reducible apply Sat.callG1 (r2)); exact rfl; exact rfl; exact rfl; exact rfl; kernel_rfl; (intro hG; (exact cnvX)); exact rfl)
    | ((with_reducible apply Sat.callG1 (r3)); exact rfl; exact rfl; exact rfl; exact rfl; kernel_rfl; (intro hG; (exact cnvX)); exact rfl)
    | ((with_reducible apply Sat.callG1 (r4)); exact rfl; exact rfl; exact rfl; exact rfl; kernel_rfl; (intro hG; (exact cnvX)); exact rfl) | fail)
  (refine Sat.fin (Sat.end1 rfl rfl rfl True.intro (.refl _ purX) (by first | exact .inl rfl | exact .inr rfl) (fun _ h => h)) ?_; rfl)
end
end Go.Proofs.YtpbgihhfcdggkaaGreatDoor
end
section
namespace Go.Proofs.YtpbgihhfcdggkaaGreatDoor
open Go.RowKit V
set_option maxRecDepth 100000
set_option maxHeartbeats 4000000
set_option linter.unusedSimpArgs false
set_option linter.unusedVariables false
attribute [local irreducible] V.Sat V.DSat V.SatP V.ASat V.AOp
structure RulesOk (l : List RuleL) (n : Nat) : Prop where
  right : ∀ r ∈ l, rightR r = true
  len : l.length ≤ n
  names : ∀ r ∈ l, r.name ∈ callT ∧ (r.kind = 1 → r.to ∈ callT)
theorem fit_ok (s : SetL) (L : List Quad) (hL : ∀ q ∈ L, QuadOk q) (n : Nat) : RulesOk (fitN s L n) n := by
  have key : ∀ r ∈ fitN s L n, ∃ q ∈ L, r = ruleN q := fun r hr => by
    obtain ⟨q, hq, e⟩ := fitS_mem _ _ r hr
    exact ⟨q, List.mem_of_mem_take hq, e⟩
  refine ⟨fun r hr => ?_, ?_, fun r hr => ?_⟩
  · obtain ⟨q, hq, rfl⟩ := key r hr
    exact ruleN_ok q (hL q hq)
  · have := fitS_len (L.take n) s
    rw [List.length_take] at this
    exact Nat.le_trans this (Nat.min_le_left _ _)
  · obtain ⟨q, hq, rfl⟩ := key r hr
    exact ruleN_names q (hL q hq)
theorem rules_ok (L : List Quad) (hL : ∀ q ∈ L, QuadOk q) (n : Nat) : RulesOk (rulesN L n) n := by
  have key : ∀ r ∈ rulesN L n, ∃ q ∈ L, r = ruleN q := fun r hr => by
    obtain ⟨q, hq, e⟩ := List.mem_map.1 hr
    exact ⟨q, List.mem_of_mem_take hq, e.symm⟩
  refine ⟨fun r hr => ?_, by rw [rulesN_len]; exact Nat.min_le_left _ _, fun r hr => ?_⟩
  · obtain ⟨q, hq, rfl⟩ := key r hr
    exact ruleN_ok q (hL q hq)
  · obtain ⟨q, hq, rfl⟩ := key r hr
    exact ruleN_names q (hL q hq)
structure SetOk (s : SetL) : Prop where
  valid : ValidS s
  nv : s.vals.length ≤ 8
  nk : s.kept.length ≤ 4
  names : ∀ v ∈ s.vals, v.name ∈ callT
theorem made_ok' (x : Raw) (h : RawOk x) : SetOk (madeS x) := by
  obtain ⟨h1, h2, h3, h4⟩ := made_ok x h
  exact ⟨h1, h2, h3, h4⟩
section
variable {a b : TypeId} {p q : Value}
theorem back_spec (x : Raw) (hx : RawOk x) (L : List Quad) (hL : ∀ q ∈ L, QuadOk q) (v : Int) (hv : 0 ≤ v ∧ v < 65536) : Fun Tryz.prog (Γs a b p q) 6 [x.v, .ro (quadE L), .int .u16 v] (.bool true) := by
  have hup := sanity_spec (a := a) (b := b) (p := p) (q := q)
  have hM := Fun.weak (Γ := Γs a b p q) (made_spec x hx)
  have hs := made_ok' x hx
  have hpl : pureE (quadE L) := fun _ _ => by simp [pureL, pureS, pureE]
  have hp1 := pur_pair x.vals
  have hp2 := pur_pair x.kept
  generalize madeS x = s at hM hs
  have hF := Fun.weak (Γ := Γs a b p q) (fit_spec s hs.valid.rise (by have := hs.nv; omega) (by have := hs.nk; omega) L hL 8 (by decide))
  have hr := fit_ok s L hL 8
  obtain ⟨t, hrun⟩ : ∃ t, runL doS s (fitN s L 8) = some t := fitS_run _ s
  generalize fitN s L 8 = R at hF hr hrun
  have v0 : 0 ≤ v % 60001 := Int.emod_nonneg _ (by decide)
  have v1 : v % 60001 ≤ 60000 := by have := Int.emod_lt_of_pos v (b := 60001) (by decide); omega
  obtain ⟨e1, e2, e3⟩ := back_law hs.valid hs.nv hs.nk R hr.right hr.len hrun (v % 60001) v0 v1
  have h1 := Fun.weak (Γ := Γs a b p q) (Fwd_spec s R (v % 60001) (by have := hr.len; omega))
  rw [e1] at h1
  have h2 := Fun.weak (Γ := Γs a b p q) (Bck_spec (verS (v % 60001) t) R s.version (by have := hr.len; omega))
  rw [e3] at h2
  have h3 := Fun.weak (Γ := Γs a b p q) (ValidR_spec (verS (v % 60001) t))
  rw [(validS_iff _).2 e2] at h3
  have h4 := Fun.weak (Γ := Γs a b p q) (same_spec s s)
  rw [(sameS_iff _ _).2 rfl] at h4
  have hpr := pur_rule R
  have q1 := pur_val s.vals
  have q2 := pur_val s.kept
  have q3 := pur_val (verS (v % 60001) t).vals
  have q4 := pur_val (verS (v % 60001) t).kept
  refine Fun.mk 7 Tryz.func6 rfl Tryz.ntmps6 rfl rfl fun T w0 => ?_
  repeat' (first
    | ((with_reducible apply Sat.run (X := X64)); exact rfl; (first | exact True.intro | (exact phi) | skip))
    | ((with_reducible apply Sat.cond_p); exact rfl; all_goals intro h)
    | ((with_reducible apply Sat.call0 (hup)); exact rfl; exact rfl; kernel_rfl; exact rfl)
    | ((with_reducible apply Sat.call (hM)); exact rfl; exact rfl; kernel_rfl; (exact cnvX); exact rfl)
    | ((with_reducible apply Sat.call (hF)); exact rfl; exact rfl; kernel_rfl; (exact cnvX); exact rfl)
    | ((with_reducible apply Sat.call (h1)); exact rfl; exact rfl; kernel_rfl; (exact cnvX); exact rfl)
    | ((with_reducible apply Sat.call (h2)); exact rfl; exact rfl; kernel_rfl; (exact cnvX); exact rfl)
    | ((with_reducible apply Sat.callG1 (h3)); exact rfl; exact rfl; exact rfl; exact rfl; kernel_rfl; (intro hG; (exact cnvX)); exact rfl)
    | ((with_reducible apply Sat.callG1 (h4)); exact rfl; exact rfl; exact rfl; exact rfl; kernel_rfl; (intro hG; (exact cnvX)); exact rfl) | fail)
  · exfalso
    simp [verS] at h
  · (refine Sat.fin (Sat.end1 rfl rfl rfl True.intro (.refl _ purX) (by first | exact .inl rfl | exact .inr rfl) (fun _ h => h)) ?_; rfl)
theorem slice_to {P : Program} {Γ : Glob} {f : FuncId} {a c res : SV} (R : List RuleL) (k : Nat) (hk : k ≤ R.length) (h : Fun P Γ f [a, .ro (ruleE (R.take k)), c] res) : Fun P Γ f [a, .ro (.g (k - 0) 4 fun i => ruleP (R.getD (0 + i) r00)), c] res := by
  have hl : (R.take k).length = k - 0 := by rw [List.length_take]; omega
  have e : ruleE (R.take k) = .g (k - 0) 4 fun i => ruleP ((R.take k).getD i r00) := by unfold ruleE; rw [hl]
  rw [e] at h
  refine gx2 _ h fun i hi => ?_
  rw [Nat.zero_add, List.getD_eq_getElem?_getD, List.getD_eq_getElem?_getD, List.getElem?_take, if_pos (by omega)]
theorem slice_from {P : Program} {Γ : Glob} {f : FuncId} {a c res : SV} (R : List RuleL) (k : Nat) (h : Fun P Γ f [a, .ro (ruleE (R.drop k)), c] res) : Fun P Γ f [a, .ro (.g (R.length - k) 4 fun i => ruleP (R.getD (k + i) r00)), c] res := by
  have hl : (R.drop k).length = R.length - k := List.length_drop
  have e : ruleE (R.drop k) = .g (R.length - k) 4 fun i => ruleP ((R.drop k).getD i r00) := by unfold ruleE; rw [hl]
  rw [e] at h
  refine gx2 _ h fun i hi => ?_
  rw [List.getD_eq_getElem?_getD, List.getD_eq_getElem?_getD, List.getElem?_drop]
theorem parts_spec (x : Raw) (hx : RawOk x) (L : List Quad) (hL : ∀ q ∈ L, QuadOk q) (n : Int) (hn : 0 ≤ n ∧ n < 256) : Fun Tryz.prog (Γs a b p q) 9 [x.v, .ro (quadE L), .int .u8 n] (.bool true) := by
  have hup := sanity_spec (a := a) (b := b) (p := p) (q := q)
  have hM := Fun.weak (Γ := Γs a b p q) (made_spec x hx)
  have hs := made_ok' x hx
  have hpl : pureE (quadE L) := fun _ _ => by simp [pureL, pureS, pureE]
  have hp1 := pur_pair x.vals
  have hp2 := pur_pair x.kept
  generalize madeS x = s at hM hs
  have hF := Fun.weak (Γ := Γs a b p q) (fit_spec s hs.valid.rise (by have := hs.nv; omega) (by have := hs.nk; omega) L hL 8 (by decide))
  have hG := Fun.weak (Γ := Γs a b p q) (rules_spec L hL 8 (by decide))
  have hr1 := fit_ok s L hL 8
  have hr2 := rules_ok L hL 8
  generalize fitN s L 8 = R1 at hF hr1
  generalize rulesN L 8 = R2 at hG hr2
  refine Fun.mk 7 Tryz.func9 rfl Tryz.ntmps9 rfl rfl fun T w0 => ?_
  have hpr1 := pur_rule R1
  have hpr2 := pur_rule R2
  by_cases hn8 : 128 ≤ n
  · have hlen := hr1.len
    repeat' (first
      | ((with_reducible apply Sat.run (X := X64)); exact rfl; (first | exact True.intro | (exact phi) | skip))
      | ((with_reducible apply Sat.cond_pt); exact rfl; (try dsimp only [V.EV.sub, V.EV.len]); first | assumption | omega)
      | ((with_reducible apply Sat.call0 (hup)); exact rfl; exact rfl; kernel_rfl; exact rfl)
      | ((with_reducible apply Sat.call (hM)); exact rfl; exact rfl; kernel_rfl; (exact cnvX); exact rfl)
      | ((with_reducible apply Sat.call (hG)); exact rfl; exact rfl; kernel_rfl; (exact cnvX); exact rfl)
      | ((with_reducible apply Sat.call (hF)); exact rfl; exact rfl; kernel_rfl; (exact cnvX); exact rfl) | fail)
    have m0 : 0 ≤ n % ((R1.length : Int) + 1) := Int.emod_nonneg _ (by omega)
    have m1 : n % ((R1.length : Int) + 1) < (R1.length : Int) + 1 := Int.emod_lt_of_pos n (by omega)
    have h1 := Fun.weak (Γ := Γs a b p q) (Fwd_spec s R1 9 (by omega))
    have hk : (n % ((R1.length : Int) + 1)).toNat ≤ R1.length := by omega
    have h2 := slice_to R1 _ hk (Fun.weak (Γ := Γs a b p q) (Fwd_spec s (R1.take (n % ((R1.length : Int) + 1)).toNat) 3 (by rw [List.length_take]; omega)))
    have happ := List.take_append_drop (n % ((R1.length : Int) + 1)).toNat R1
    have hlaw := parts_set hs.valid hs.nv hs.nk (R1.take (n % ((R1.length : Int) + 1)).toNat) (R1.drop (n % ((R1.length : Int) + 1)).toNat) (by rw [happ]; exact hr1.right) (by rw [happ]; exact hlen)
    rw [happ] at hlaw
    rcases hlaw with ⟨e, l1, l2, l3⟩ | ⟨t, l1, l2⟩
    · rw [l1] at h2
      rw [l3] at h1
      repeat' (first
        | ((with_reducible apply Sat.run (X := X64)); exact rfl; (first | exact True.intro | (exact phi) | skip))
        | ((with_reducible apply Sat.drawn); kernel_rfl)
        | ((with_reducible apply DSat.run (X := X64)); exact rfl; (first | exact True.intro | (exact phi) | skip))
        | ((with_reducible apply DSat.fin); kernel_rfl)
        | ((with_reducible apply Sat.cond_pt); exact rfl; (try dsimp only [V.EV.sub, V.EV.len]); first | assumption | omega)
        | ((with_reducible apply Sat.call (h1)); exact rfl; exact rfl; kernel_rfl; (exact cnvX); exact rfl)
        | ((with_reducible apply DSat.call (h2)); exact rfl; exact rfl; kernel_rfl; (exact cnvX); exact rfl) | fail)
      (refine Sat.fin (Sat.end1 rfl rfl rfl True.intro (.refl _ purX) (by first | exact .inl rfl | exact .inr rfl) (fun _ h => h)) ?_; (simp))
    · rw [l1] at h2
      have h3 := slice_from R1 (n % ((R1.length : Int) + 1)).toNat (Fun.weak (Γ := Γs a b p q) (Fwd_spec t (R1.drop (n % ((R1.length : Int) + 1)).toNat) 9 (by rw [List.length_drop]; omega)))
      rw [l2] at h3
      have h4 := Fun.weak (Γ := Γs a b p q) (same_spec (fwdS s R1 9).1 (fwdS s R1 9).1)
      rw [(sameS_iff _ _).2 rfl] at h4
      generalize fwdS s R1 9 = W at h1 h3 h4
      have q1 := pur_val W.1.vals
      have q2 := pur_val W.1.kept
      repeat' (first
        | ((with_reducible apply Sat.run (X := X64)); exact rfl; (first | exact True.intro | (exact phi) | skip))
        | ((with_reducible apply Sat.drawn); kernel_rfl)
        | ((with_reducible apply DSat.run (X := X64)); exact rfl; (first | exact True.intro | (exact phi) | skip))
        | ((with_reducible apply DSat.fin); kernel_rfl)
        | ((with_reducible apply Sat.cond_f); exact rfl)
        | ((with_reducible apply Sat.call (h1)); exact rfl; exact rfl; kernel_rfl; (exact cnvX); exact rfl)
        | ((with_reducible apply DSat.call (h2)); exact rfl; exact rfl; kernel_rfl; (exact cnvX); exact rfl)
        | ((with_reducible apply DSat.call (h3)); exact rfl; exact rfl; kernel_rfl; (exact cnvX); exact rfl)
        | ((with_reducible apply Sat.callR (h4)); exact rfl; exact rfl; exact rfl; kernel_rfl; (exact cnvX); exact rfl) | fail)
      (refine Sat.fin (Sat.end1 rfl rfl rfl True.intro (.refl _ purX) (by first | exact .inl rfl | exact .inr rfl) (fun _ h => h)) ?_; (simp))
  · have hlen := hr2.len
    repeat' (first
      | ((with_reducible apply Sat.run (X := X64)); exact rfl; (first | exact True.intro | (exact phi) | skip))
      | ((with_reducible apply Sat.cond_pf); exact rfl; (try dsimp only [V.EV.sub, V.EV.len]); first | assumption | omega)
      | ((with_reducible apply Sat.call0 (hup)); exact rfl; exact rfl; kernel_rfl; exact rfl)
      | ((with_reducible apply Sat.call (hM)); exact rfl; exact rfl; kernel_rfl; (exact cnvX); exact rfl)
      | ((with_reducible apply Sat.call (hG)); exact rfl; exact rfl; kernel_rfl; (exact cnvX); exact rfl) | fail)
    have m0 : 0 ≤ n % ((R2.length : Int) + 1) := Int.emod_nonneg _ (by omega)
    have m1 : n % ((R2.length : Int) + 1) < (R2.length : Int) + 1 := Int.emod_lt_of_pos n (by omega)
    have h1 := Fun.weak (Γ := Γs a b p q) (Fwd_spec s R2 9 (by omega))
    have hk : (n % ((R2.length : Int) + 1)).toNat ≤ R2.length := by omega
    have h2 := slice_to R2 _ hk (Fun.weak (Γ := Γs a b p q) (Fwd_spec s (R2.take (n % ((R2.length : Int) + 1)).toNat) 3 (by rw [List.length_take]; omega)))
    have happ := List.take_append_drop (n % ((R2.length : Int) + 1)).toNat R2
    have hlaw := parts_set hs.valid hs.nv hs.nk (R2.take (n % ((R2.length : Int) + 1)).toNat) (R2.drop (n % ((R2.length : Int) + 1)).toNat) (by rw [happ]; exact hr2.right) (by rw [happ]; exact hlen)
    rw [happ] at hlaw
    rcases hlaw with ⟨e, l1, l2, l3⟩ | ⟨t, l1, l2⟩
    · rw [l1] at h2
      rw [l3] at h1
      repeat' (first
        | ((with_reducible apply Sat.run (X := X64)); exact rfl; (first | exact True.intro | (exact phi) | skip))
        | ((with_reducible apply Sat.drawn); kernel_rfl)
        | ((with_reducible apply DSat.run (X := X64)); exact rfl; (first | exact True.intro | (exact phi) | skip))
        | ((with_reducible apply DSat.fin); kernel_rfl)
        | ((with_reducible apply Sat.cond_pt); exact rfl; (try dsimp only [V.EV.sub, V.EV.len]); first | assumption | omega)
        | ((with_reducible apply Sat.call (h1)); exact rfl; exact rfl; kernel_rfl; (exact cnvX); exact rfl)
        | ((with_reducible apply DSat.call (h2)); exact rfl; exact rfl; kernel_rfl; (exact cnvX); exact rfl) | fail)
      (refine Sat.fin (Sat.end1 rfl rfl rfl True.intro (.refl _ purX) (by first | exact .inl rfl | exact .inr rfl) (fun _ h => h)) ?_; (simp))
    · rw [l1] at h2
      have h3 := slice_from R2 (n % ((R2.length : Int) + 1)).toNat (Fun.weak (Γ := Γs a b p q) (Fwd_spec t (R2.drop (n % ((R2.length : Int) + 1)).toNat) 9 (by rw [List.length_drop]; omega)))
      rw [l2] at h3
      have h4 := Fun.weak (Γ := Γs a b p q) (same_spec (fwdS s R2 9).1 (fwdS s R2 9).1)
      rw [(sameS_iff _ _).2 rfl] at h4
      generalize fwdS s R2 9 = W at h1 h3 h4
      have q1 := pur_val W.1.vals
      have q2 := pur_val W.1.kept
      repeat' (first
        | ((with_reducible apply Sat.run (X := X64)); exact rfl; (first | exact True.intro | (exact phi) | skip))
        | ((with_reducible apply Sat.drawn); kernel_rfl)
        | ((with_reducible apply DSat.run (X := X64)); exact rfl; (first | exact True.intro | (exact phi) | skip))
        | ((with_reducible apply DSat.fin); kernel_rfl)
        | ((with_reducible apply Sat.cond_f); exact rfl)
        | ((with_reducible apply Sat.call (h1)); exact rfl; exact rfl; kernel_rfl; (exact cnvX); exact rfl)
        | ((with_reducible apply DSat.call (h2)); exact rfl; exact rfl; kernel_rfl; (exact cnvX); exact rfl)
        | ((with_reducible apply DSat.call (h3)); exact rfl; exact rfl; kernel_rfl; (exact cnvX); exact rfl)
        | ((with_reducible apply Sat.callR (h4)); exact rfl; exact rfl; exact rfl; kernel_rfl; (exact cnvX); exact rfl) | fail)
      (refine Sat.fin (Sat.end1 rfl rfl rfl True.intro (.refl _ purX) (by first | exact .inl rfl | exact .inr rfl) (fun _ h => h)) ?_; (simp))
end
end Go.Proofs.YtpbgihhfcdggkaaGreatDoor
end
section
namespace Go.Proofs.YtpbgihhfcdggkaaGreatDoor
open Go.RowKit Go.ChangeShapes Go.WideShapes V
set_option maxRecDepth 100000
set_option maxHeartbeats 4000000
theorem own : ownKnob Tryz.prog.godebug = none := by kernel_rfl
theorem laidOut : laidOutB Tryz.prog = true := by kernel_rfl
def tabs_laid : List (String × DataW Unit) := [("math/bits.deBruijn32tab", Rows.laid_math_bits_deBruijn32tab), ("math/bits.deBruijn64tab", Rows.laid_math_bits_deBruijn64tab), ("internal/strconv.uint64pow10", Rows.laid_internal_strconv_uint64pow10), ("unicode/utf8.acceptRanges", Rows.laid_unicode_utf8_acceptRanges), ("strconv.ErrRange", Rows.laid_strconv_ErrRange), ("strconv.ErrSyntax", Rows.laid_strconv_ErrSyntax), ("unicode/utf8.first", Rows.laid_unicode_utf8_first)]
theorem pow_data : (Rows.laid_internal_strconv_uint64pow10 : DataW Unit) = Lib.tabData .u64 Lib.pow10Tab := rfl
theorem star : "*" ++ "errors.errorString" = "*errors.errorString" := by decide
theorem row171 (u : TypeId) (h : Tryz.prog.typeName? 3 u = some "*errors.errorString") : u = 171 :=
  typeName_ptr_named (nm := "errors.errorString") (by rw [star]; kernel_rfl) (by kernel_rfl) (by decide) u (by rw [star]; exact h)
theorem gSyn : Tryz.prog.globalNamed "strconv.ErrSyntax" = some 1 := by kernel_rfl
theorem gRng : Tryz.prog.globalNamed "strconv.ErrRange" = some 2 := by kernel_rfl
theorem one_rep {w : World} {g : Nat} {s : SV} {v : Value} {t : TypeId} {fr : Nat × Nat} (hh : w.heap[g]? = some (.cells #[v] t fr)) (hr : Rep E0 (fun _ => False) w s v) (h1 : s.one = true) :
    Rep E0 (fun _ => False) w (.rop (.g 1 1 fun _ => [s]) 0 0) (.pointer (some ⟨g, 0, none⟩)) ∧ ∃ t, w.shape? g = some (t, (EV.g 1 1 fun _ => [s]).len * (EV.g 1 1 fun _ => [s]).sz) := by
  refine ⟨.rop _ 0 0 g 0 (fun _ => [v]) (fun h => h) (fun i hi => rfl) (fun i j u hi hj => ?_) (fun i hi => .one _ _ _ _ h1 hr .nil) (Nat.lt_succ_self 0) (Nat.lt_succ_self 0) (Array.getElem?_eq_some_iff.1 hh).1, t, ?_⟩
  · have hi0 : i = 0 := by have : i < 1 := hi; omega
    subst hi0
    cases j with
    | zero =>
      simp only [List.getElem?_cons_zero, Option.some.injEq] at hj
      subst hj
      unfold World.cell?
      rw [hh]
      simp
    | succ j => simp at hj
  · unfold World.shape?
    rw [hh]
    rfl
theorem pow_rep {w : World} (h : Lib.TabIs Tryz.prog w "internal/strconv.uint64pow10" .u64 Lib.pow10Tab) :
    Rep E0 (fun _ => False) w (.rop (.ints .u64 Lib.pow10Tab) 0 0) (.pointer (some ⟨3, 0, none⟩)) ∧ ∃ t, w.shape? 3 = some (t, (EV.ints .u64 Lib.pow10Tab).len * (EV.ints .u64 Lib.pow10Tab).sz) := by
  unfold Lib.TabIs World.var? at h
  simp only [gPow, Option.bind_some] at h
  split at h
  · rename_i c t fr hh
    simp only [Option.some.injEq] at h
    have hcell : ∀ i, i < 20 → w.cell? ⟨3, i, none⟩ = some (.int .u64 (Lib.pow10Tab.getD i 0)) := fun i hi => by
      unfold World.cell?
      rw [hh]
      have h3 : i < Lib.pow10Tab.length := by rw [Lib.pow10Tab_length]; omega
      simp [h, List.getD, List.getElem?_eq_getElem h3]
    have hl : (EV.ints .u64 Lib.pow10Tab).len = 20 := by simp [EV.len, Lib.pow10Tab_length]
    refine ⟨.rop _ 0 0 3 0 (fun i => [.int .u64 (Lib.pow10Tab.getD i 0)]) (fun h => h) (fun i _ => rfl) (fun i j v hi hj => ?_) (fun i hi => ?_) (by rw [hl]; decide) (Nat.lt_succ_self 0) (block_lt_of_cell (hcell 0 (by decide))), t, ?_⟩
    · cases j with
      | zero =>
        simp only [List.getElem?_cons_zero, Option.some.injEq] at hj
        subst hj
        simpa [EV.sz] using hcell i (by omega)
      | succ j => simp at hj
    · refine .one _ _ _ _ rfl (.int _ _ ?_) .nil
      have hi' : i < 20 := by omega
      rw [Lib.pow10Tab_at i hi']
      have h5 : (10 : Nat) ^ i ≤ 10 ^ 19 := Nat.pow_le_pow_right (by decide) (by omega)
      have h6 : (10 : Nat) ^ 19 = 10000000000000000000 := by decide
      rw [h6] at h5
      generalize (10 : Nat) ^ i = q at h5
      exact inR_u64 (by omega) (by omega)
    · unfold World.shape?
      rw [hh]
      simp [h, EV.len, EV.sz]
  · cases h
def errT (w : World) (g : Nat) : TypeId := match w.cell? ⟨g, 0, none⟩ with
  | some (.iface t _) => t
  | _ => 0
def errP (w : World) (g : Nat) : Value := match w.cell? ⟨g, 0, none⟩ with
  | some (.iface _ p) => p
  | _ => .nilIface
@[reducible] def Γw (w : World) : Glob := Γs (errT w 1) (errT w 2) (errP w 1) (errP w 2)
theorem err_rep2 {w : World} {n : String} {g : Nat} {t : TypeId} {p : Value} (hg : Tryz.prog.globalNamed n = some g) (h : w.var? Tryz.prog n = some #[.iface t p]) :
    Rep E0 (fun _ => False) w (.rop (.g 1 1 fun _ => [.ifc (errT w g) (.val (errP w g))]) 0 0) (.pointer (some ⟨g, 0, none⟩)) ∧ ∃ t', w.shape? g = some (t', (EV.g 1 1 fun _ => [.ifc (errT w g) (.val (errP w g))]).len * (EV.g 1 1 fun _ => [.ifc (errT w g) (.val (errP w g))]).sz) := by
  unfold World.var? at h
  simp only [hg, Option.bind_some] at h
  split at h
  · rename_i c ty fr hh
    simp only [Option.some.injEq] at h
    subst h
    have hc : w.cell? ⟨g, 0, none⟩ = some (.iface t p) := by unfold World.cell?; rw [hh]; simp
    have e1 : errT w g = t := by unfold errT; rw [hc]
    have e2 : errP w g = p := by unfold errP; rw [hc]
    rw [e1, e2]
    exact one_rep hh (.ifc _ _ _ (.val _)) rfl
  · cases h
theorem tabs_glob (W : World) (h : laidMetH Tryz.prog tabs_laid W) (hsh : W.ShapedOpen Tryz.prog) : GOk (Γw W) (fun _ => False) W := by
  have h1 : laidMet Tryz.prog tabs_laid W := by
    rw [MakeChecks.laidMetH_plain _ _ _ (by kernel_rfl)] at h
    exact h
  have h2 := h1.tail.tail
  rw [pow_data] at h2
  have h3 := pow_rep (Lib.tabIs_of_head gPow (by kernel_rfl) Tryz.underlying165 Tryz.underlying148 (by kernel_rfl) (by kernel_rfl) h2)
  have h4 := h1.tail.tail.tail.tail
  obtain ⟨a0, s0, hv0, _, _, _⟩ := laid_sentinel h4 gRng (by kernel_rfl) Tryz.underlying85 row171 Tryz.underlying171 Tryz.underlying173 rfl rfl Tryz.underlying9 (by kernel_rfl) (by kernel_rfl)
  obtain ⟨a1, s1, hv1, _, _, _⟩ := laid_sentinel h4.tail gSyn (by kernel_rfl) Tryz.underlying85 row171 Tryz.underlying171 Tryz.underlying173 rfl rfl Tryz.underlying9 (by kernel_rfl) (by kernel_rfl)
  have h5 := err_rep2 gRng hv0
  have h6 := err_rep2 gSyn hv1
  have h7 : Rep E0 (fun _ => False) W (.rop (.g 1 1 fun _ => [.anyi .i64]) 0 0) (.pointer (some ⟨0, 0, none⟩)) ∧ ∃ t, W.shape? 0 = some (t, (EV.g 1 1 fun _ => [SV.anyi .i64]).len * (EV.g 1 1 fun _ => [SV.anyi .i64]).sz) := by
    have hz : ((begin Tryz.prog (fun _ _ => 0) default).world.heap[0]?).bind Obj.row? = some (#[.int .i64 0], 3) := by kernel_rfl
    obtain ⟨m, hm⟩ := Go.Proofs.cell_of_shapedOpen_int hsh (g := 0) (by decide +kernel) hz rfl (by kernel_rfl) (by kernel_rfl) Tryz.underlying3
    obtain ⟨cs, hh, hs, _⟩ := hsh.1 0 _ _ (by decide +kernel) hz
    have h1s : cs.size = 1 := hs
    obtain ⟨v, rfl⟩ : ∃ v, cs = #[v] := by
      obtain ⟨l⟩ := cs
      rcases l with _ | ⟨v, _ | ⟨x, l⟩⟩
      · simp at h1s
      · exact ⟨v, rfl⟩
      · simp at h1s
    have hv : v = .int .i64 m := by
      unfold World.cell? at hm
      rw [hh] at hm
      simpa using hm
    subst hv
    exact one_rep hh (.anyi _ _) rfl
  have key : ∀ g e, gl (Γw W) g = some e → (g = 3 ∧ e = .ints .u64 Lib.pow10Tab) ∨ (g = 0 ∧ e = .g 1 1 fun _ => [.anyi .i64]) ∨ (g = 1 ∧ e = .g 1 1 fun _ => [.ifc (errT W 1) (.val (errP W 1))]) ∨ (g = 2 ∧ e = .g 1 1 fun _ => [.ifc (errT W 2) (.val (errP W 2))]) := by
    intro g e hg
    simp only [gl] at hg
    split at hg
    · rename_i hb
      exact .inl ⟨(Nat.eq_of_beq_eq_true hb).symm, by simpa using hg.symm⟩
    · split at hg
      · rename_i hb
        exact .inr (.inl ⟨(Nat.eq_of_beq_eq_true hb).symm, by simpa using hg.symm⟩)
      · split at hg
        · rename_i hb
          exact .inr (.inr (.inl ⟨(Nat.eq_of_beq_eq_true hb).symm, by simpa using hg.symm⟩))
        · split at hg
          · rename_i hb
            exact .inr (.inr (.inr ⟨(Nat.eq_of_beq_eq_true hb).symm, by simpa using hg.symm⟩))
          · cases hg
  refine ⟨fun g e hg => ?_, fun g e hg => ?_⟩ <;> rcases key g e hg with ⟨rfl, rfl⟩ | ⟨rfl, rfl⟩ | ⟨rfl, rfl⟩ | ⟨rfl, rfl⟩
  · exact h3.1
  · exact h7.1
  · exact h6.1
  · exact h5.1
  · exact h3.2
  · exact h7.2
  · exact h6.2
  · exact h5.2
theorem door_met (os : Os) (args : Array Value) : laidMetH Tryz.prog tabs_laid ((World.laidAll Tryz.prog os tabs_laid).forCall (fun _ _ => 0) ⟨#[], args, []⟩).memory := by
  rw [MakeChecks.laidMetH_plain _ _ _ (by kernel_rfl)]
  exact laidMet_laidAll _ (by kernel_rfl) (by kernel_rfl)
section
variable {H : Type} {enc : TypeId × Value → H}
theorem law_step2 {C : Checked} {os : Os} {f : FuncId} {fn : Func} {s : OpenSpec} {F : Stop.Interp} {conds : List PathCond} {apart fresh handsOn again : Bool} {laid : List (String × DataW Unit)} {tb : TypeId} (Γ : World → Glob)
    (own : ownKnob C.prog.godebug = none) (started : os.Started) (noInit : C.prog.inits.idxOf? f = none) (hfn : C.prog.funcs[f]? = some fn)
    (hl : laidOutB C.prog = true) (hts : fn.params.toList.all (fun t => C.prog.readableRec t && decide (t < C.prog.types.size)) = true) (hok : fn.params.toList.all (okT C.prog 20) = true) (hrt : fn.resultTypes = #[tb]) (htb : C.prog.underlying tb = some .bool) (hvars : s.vars = [])
    (hspec : ∀ ds : List (DataW H), ds.length = fn.params.toList.length → s.fn F H ds = { results := [.lit (.bool true)], args := ds })
    (witness : ∃ (w : World) (tape : Tape) (i : Input), w.os = os ∧ (w.forCall tape i).Shaped C.prog ∧ i.vars = [] ∧ Input.okWide C.prog (w.forCall tape i) .any w.heap.size f i ∧
      s.preRow enc C.prog fn conds apart laid (w.forCall tape i).memory i.args ∧ ({} : Assume).holds C.prog (lone (Frame.enter C.prog f i.args .normal) [] (w.forCall tape i)))
    (glob : ∀ W : World, laidMetH C.prog laid W → W.ShapedOpen C.prog → GOk (Γ W) (fun _ => False) W)
    (law : ∀ (W : World) (vs : List Value) (ds : List (DataW H)), ds.length = fn.params.toList.length → Tup E0 (fun _ => False) W (svsOf C.prog fn.params.toList ds) vs → (∀ k, s.cond = some k → k H ds = true) → Fun C.prog (Γ W) f (svsOf C.prog fn.params.toList ds) (.bool true)) :
    ReturnsInHanded {} C os f .any (s.preRow enc C.prog fn conds apart laid) ((s.at F).post enc C.prog fn apart fresh handsOn again) := by
  refine law_lift own started noInit hfn hl (fun t ht => ?_) hrt htb hvars witness ?_
  · have := List.all_eq_true.1 hts t ht
    simpa using this
  · intro W base args ds ps hval hA _ hcond _ hL hsh
    obtain ⟨h1, h2⟩ := tup_args (T := fun _ => False) (fun _ h => h) hok (fun j t v ht hv => hval j t v (by simpa using ht) (by simpa using hv)) hA
    refine ⟨hspec ds h1, ?_⟩
    have h3 := law W args.toList ds h1 h2 hcond (fun _ => False) W args.toList (fun _ h => h.elim) (glob W hL hsh) h2
    simp only [Array.toArray_toList] at h3
    refine h3.mono fun e w' ⟨v, he, hr, hb⟩ => ?_
    cases hr
    exact ⟨he, hb⟩
end
end Go.Proofs.YtpbgihhfcdggkaaGreatDoor
end
section
namespace Go.Proofs.YtpbgihhfcdggkaaGreatDoor
open Go.RowKit V
set_option maxRecDepth 100000
section
variable {H : Type}
theorem map_nthD {α : Type} (f : DataW H → α) : ∀ (l : List (DataW H)) (i : Nat), (l.map f).getD i (f .nil) = f (nthD l i)
  | [], _ => rfl
  | _ :: _, 0 => rfl
  | _ :: l, i + 1 => map_nthD f l i
theorem u8_lt {n : Int} (h : inR .u8 n) : 0 ≤ n ∧ n < 256 := ⟨(u8_iff h).1, by have := (u8_iff h).2; omega⟩
@[reducible] def pairsSV (l : List (DataW H)) : EV := .g l.length 2 fun i => [.int .u8 (iOf (nthD (ptsD (nthD l i)) 0)), .int .u8 (iOf (nthD (ptsD (nthD l i)) 1))]
def pairD (d : DataW H) : Int × Int := (iOf (nthD (ptsD d) 0), iOf (nthD (ptsD d) 1))
theorem pairsSV_eq (l : List (DataW H)) : pairsSV l = pairE (l.map pairD) := by
  show EV.g _ _ _ = EV.g _ _ _
  rw [List.length_map]
  congr 1
  funext i
  have e : (l.map pairD).getD i (0, 0) = pairD (nthD l i) := map_nthD pairD l i
  rw [e]
  rfl
theorem mem_nthD {α : Type} (f : DataW H → α) (l : List (DataW H)) (x : α) (h : x ∈ l.map f) : ∃ i, i < l.length ∧ x = f (nthD l i) := by
  obtain ⟨i, hi, e⟩ := List.mem_iff_getElem.1 h
  rw [List.length_map] at hi
  refine ⟨i, hi, ?_⟩
  rw [← map_nthD f l i, List.getD_eq_getElem?_getD, List.getElem?_eq_getElem (by rw [List.length_map]; exact hi), Option.getD_some, e]
theorem pairs_ok (l : List (DataW H)) (h : factsE (pairsSV l)) : ∀ p ∈ l.map pairD, PairOk p := fun p hp => by
  obtain ⟨i, hi, rfl⟩ := mem_nthD pairD l p hp
  obtain ⟨h1, h2, _⟩ := h i hi
  exact ⟨u8_lt h1, u8_lt h2⟩
@[reducible] def rawSV (d : DataW H) : SV := .agg [.int .u16 (iOf (nthD (ptsD d) 0)), .ro (pairsSV (eOf (nthD (ptsD d) 1))), .ro (pairsSV (eOf (nthD (ptsD d) 2)))]
def rawD (d : DataW H) : Raw := ⟨iOf (nthD (ptsD d) 0), (eOf (nthD (ptsD d) 1)).map pairD, (eOf (nthD (ptsD d) 2)).map pairD⟩
theorem rawSV_eq (d : DataW H) : rawSV d = (rawD d).v := by
  show SV.agg [_, .ro (pairsSV _), .ro (pairsSV _)] = _
  rw [pairsSV_eq, pairsSV_eq]
  rfl
theorem u16_lt {n : Int} (h : inR .u16 n) : 0 ≤ n ∧ n < 65536 := ⟨(u16_iff h).1, by have := (u16_iff h).2; omega⟩
theorem raw_ok (d : DataW H) (h1 : inR .u16 (iOf (nthD (ptsD d) 0))) (h2 : factsE (pairsSV (eOf (nthD (ptsD d) 1)))) (h3 : factsE (pairsSV (eOf (nthD (ptsD d) 2)))) : RawOk (rawD d) :=
  ⟨u16_lt h1, pairs_ok _ h2, pairs_ok _ h3⟩
@[reducible] def quadsSV (l : List (DataW H)) : EV := .g l.length 4 fun i => [.int .u8 (iOf (nthD (ptsD (nthD l i)) 0)), .int .u8 (iOf (nthD (ptsD (nthD l i)) 1)), .int .u8 (iOf (nthD (ptsD (nthD l i)) 2)), .int .u8 (iOf (nthD (ptsD (nthD l i)) 3))]
def quadD (d : DataW H) : Quad := ⟨iOf (nthD (ptsD d) 0), iOf (nthD (ptsD d) 1), iOf (nthD (ptsD d) 2), iOf (nthD (ptsD d) 3)⟩
theorem quadsSV_eq (l : List (DataW H)) : quadsSV l = quadE (l.map quadD) := by
  show EV.g _ _ _ = EV.g _ _ _
  rw [List.length_map]
  congr 1
  funext i
  have e : (l.map quadD).getD i q00 = quadD (nthD l i) := map_nthD quadD l i
  rw [e]
  rfl
theorem quads_ok (l : List (DataW H)) (h : factsE (quadsSV l)) : ∀ q ∈ l.map quadD, QuadOk q := fun q hq => by
  obtain ⟨i, hi, rfl⟩ := mem_nthD quadD l q hq
  obtain ⟨h1, h2, h3, h4, _⟩ := h i hi
  exact ⟨u8_lt h1, u8_lt h2, u8_lt h3, u8_lt h4⟩
@[reducible] def valsSV (l : List (DataW H)) : EV := .g l.length 2 fun i => [.str (sOf (nthD (ptsD (nthD l i)) 0)), .str (sOf (nthD (ptsD (nthD l i)) 1))]
def valD (d : DataW H) : ValL := ⟨sOf (nthD (ptsD d) 0), sOf (nthD (ptsD d) 1)⟩
theorem valsSV_eq (l : List (DataW H)) : valsSV l = valE (l.map valD) := by
  show EV.g _ _ _ = EV.g _ _ _
  rw [List.length_map]
  congr 1
  funext i
  have e : (l.map valD).getD i v00 = valD (nthD l i) := map_nthD valD l i
  rw [e]
  rfl
@[reducible] def setSV (d : DataW H) : SV := .agg [.int .i64 (iOf (nthD (ptsD d) 0)), .ro (valsSV (eOf (nthD (ptsD d) 1))), .ro (valsSV (eOf (nthD (ptsD d) 2)))]
def setD (d : DataW H) : SetL := ⟨iOf (nthD (ptsD d) 0), (eOf (nthD (ptsD d) 1)).map valD, (eOf (nthD (ptsD d) 2)).map valD⟩
theorem setSV_eq (d : DataW H) : setSV d = (setD d).v := by
  show SV.agg [_, .ro (valsSV _), .ro (valsSV _)] = _
  rw [valsSV_eq, valsSV_eq]
  rfl
end
end Go.Proofs.YtpbgihhfcdggkaaGreatDoor
end
