/-
  Joined texts: OA: Meta: what is written is read again (MetaRoundTrips); different releases and roots have different bytes (MetaDiffers).
  NZ: Meta: what the rows list (the error value of package bytes), as the door lays it.
  NR: Meta: what the readings of the arguments say, as releases, roots and raw numbers.
  OB: Meta: different releases and roots have different bytes (MetaDiffers).
  OT: Meta: the raw numbers that the readings of the arguments tell.
  Z5: The law inlaylaw26.MetaDiffers returns true for every input, and each argument reads behind the call as it read before: two releases, or two roots, have the same bytes exactly if they are equal.
  Conditions: the package variable bytes.ErrTooLarge holds, when the call begins, what the program's text lays there (the card ties it); no other narrowing.
-/
import Derived.Test.YtegbdcadlmefgaaDoorQE
import Derived.Test.YtegbdcadlmefgaaDoorQC
import Derived.Test.YtegbdcadlmefgaaDoorQB
import Derived.Test.YtegbdcadlmefgaaDoorCards
import Derived.Test.YtegbdcadlmefgaaDoorTie
import Derived.Lib.LaidTab
import Derived.MakeChecks
import Derived.Stop.LaidErr
import Derived.SevenTiedAt
section
namespace Go.Proofs.YtegbdcadlmefgaaDoor
open Go.RowKit V
--PURE: (intro _ _; simp [pureL, pureS, pureE]; done)
set_option maxRecDepth 100000
set_option maxHeartbeats 4000000
set_option linter.unusedSimpArgs false
attribute [local irreducible] V.Sat V.DSat
theorem p23 (r : Rel) (hv : validB r = true) (hw : RelW r) : Fun Tryd.prog [] 23 [.ro (.u8 (bytesR r))] (.tup [r.v, .int .i64 0]) := by
  have h := parse_walk (bytesR r)
  rw [(okP_of r hv hw).1, (okP_of r hv hw).2] at h
  exact h
theorem p24 (q : RootL) (hv : rootB q = true) (hw : RootW q) : Fun Tryd.prog [] 24 [.ro (.u8 (bytesQ q))] (.tup [q.v, .int .i64 0]) := by
  have h := parseRoot_walk (bytesQ q)
  rw [(okQ_of q hv hw).1, (okQ_of q hv hw).2] at h
  exact h
theorem p23x (q : RootL) : Fun Tryd.prog [] 23 [.ro (.u8 (bytesQ q))] (.tup [zeroRel.v, .int .i64 260]) := by
  have h := parse_walk (bytesQ q)
  rw [okP_root] at h
  exact h
theorem p24x (r : Rel) : Fun Tryd.prog [] 24 [.ro (.u8 (bytesR r))] (.tup [zeroRoot.v, .int .i64 260]) := by
  have h := parseRoot_walk (bytesR r)
  rw [okQ_rel] at h
  exact h
theorem s25 (r : Rel) : Fun Tryd.prog [] 25 [r.v, r.v] (.bool true) := by
  have h := same_rel r r
  rw [(relEq_iff _ _).2 rfl] at h
  exact h
theorem s26 (q : RootL) : Fun Tryd.prog [] 26 [q.v, q.v] (.bool true) := by
  have h := same_root q q
  rw [(rootEq_iff _ _).2 rfl] at h
  exact h
theorem trips_law (x : RawL) (y : RawQ) : Fun Tryd.prog [] 4 [x.v, y.v] (.bool true) := by
  refine Fun.mkF 7 Tryd.func4 rfl Tryd.ntmps4 rfl rfl fun hf T w0 => ?_
  have g1 := u16_iff hf.1.1
  have g2 := u16_iff hf.2.1.1
  have m1 := made_walk x (by omega)
  have m2 := madeRoot_walk y
  have hv := madeR_valid x
  have hw := madeR_wf x
  have hv2 := madeQ_valid y (by omega)
  have hw2 := madeQ_wf y
  generalize madeR x = r at *
  generalize madeQ y = q at *
  have b1 := bytes_spec r hv
  have c1 := rootBytes_spec q hv2
  have a1 := p23 r hv hw
  have a2 := p24 q hv2 hw2
  have a3 := p23x q
  have a4 := p24x r
  have v1 := valid_spec r
  rw [hv] at v1
  have v2 := validRoot_spec q
  rw [hv2] at v2
  have s1 := s25 r
  have s2 := s26 q
  repeat' (first
      | ((with_reducible apply Sat.run (X := X64)); exact rfl; (first | exact True.intro | (exact phi) | skip))
      | ((with_reducible apply Sat.drawn); kernel_rfl)
      | ((with_reducible apply DSat.run (X := X64)); exact rfl; (first | exact True.intro | (exact phi) | skip))
      | ((with_reducible apply DSat.fin); kernel_rfl)
      | ((with_reducible apply Sat.cond_t); exact rfl)
      | ((with_reducible apply Sat.cond_f); exact rfl)
      | ((with_reducible apply Sat.cond_pt); exact rfl; (try dsimp only [V.EV.sub, V.EV.len]); first | assumption | omega)
      | ((with_reducible apply Sat.cond_pf); exact rfl; (try dsimp only [V.EV.sub, V.EV.len]); first | assumption | omega)
      | ((with_reducible apply Sat.cond_p); exact rfl; all_goals intro h)
      | ((with_reducible apply Sat.cond); exact rfl; all_goals intro h)
      | ((with_reducible apply Sat.gon); exact rfl; first | exact rfl | (decide +kernel))
      | ((with_reducible apply Sat.call0 (sanity_law)); exact rfl; exact rfl; kernel_rfl; exact rfl)
      | ((with_reducible apply DSat.call0 (sanity_law)); exact rfl; exact rfl; kernel_rfl; exact rfl)
      | ((with_reducible apply DSat.callM0 (sanity_law)); exact rfl; exact rfl; (first | exact rfl | assumption | (decide +kernel)); exact rfl; kernel_rfl; exact rfl)
      | ((with_reducible apply Sat.call (m1)); exact rfl; exact rfl; kernel_rfl; (exact cnvX); exact rfl)
      | ((with_reducible apply DSat.call (m1)); exact rfl; exact rfl; kernel_rfl; (exact cnvX); exact rfl)
      | ((with_reducible apply Sat.call (m2)); exact rfl; exact rfl; kernel_rfl; (exact cnvX); exact rfl)
      | ((with_reducible apply DSat.call (m2)); exact rfl; exact rfl; kernel_rfl; (exact cnvX); exact rfl)
      | ((with_reducible apply Sat.call (b1)); exact rfl; exact rfl; kernel_rfl; (exact cnvX); exact rfl)
      | ((with_reducible apply DSat.call (b1)); exact rfl; exact rfl; kernel_rfl; (exact cnvX); exact rfl)
      | ((with_reducible apply Sat.call (c1)); exact rfl; exact rfl; kernel_rfl; (exact cnvX); exact rfl)
      | ((with_reducible apply DSat.call (c1)); exact rfl; exact rfl; kernel_rfl; (exact cnvX); exact rfl)
      | ((with_reducible apply Sat.call (a1)); exact rfl; exact rfl; kernel_rfl; (exact cnvX); exact rfl)
      | ((with_reducible apply DSat.call (a1)); exact rfl; exact rfl; kernel_rfl; (exact cnvX); exact rfl)
      | ((with_reducible apply Sat.call (a2)); exact rfl; exact rfl; kernel_rfl; (exact cnvX); exact rfl)
      | ((with_reducible apply DSat.call (a2)); exact rfl; exact rfl; kernel_rfl; (exact cnvX); exact rfl)
      | ((with_reducible apply Sat.call (a3)); exact rfl; exact rfl; kernel_rfl; (exact cnvX); exact rfl)
      | ((with_reducible apply DSat.call (a3)); exact rfl; exact rfl; kernel_rfl; (exact cnvX); exact rfl)
      | ((with_reducible apply Sat.call (a4)); exact rfl; exact rfl; kernel_rfl; (exact cnvX); exact rfl)
      | ((with_reducible apply DSat.call (a4)); exact rfl; exact rfl; kernel_rfl; (exact cnvX); exact rfl)
      | ((with_reducible apply Sat.callR (v1)); exact rfl; exact rfl; exact rfl; kernel_rfl; (exact cnvX); exact rfl)
      | ((with_reducible apply DSat.callR (v1)); exact rfl; exact rfl; exact rfl; kernel_rfl; (exact cnvX); exact rfl)
      | ((with_reducible apply Sat.callR (v2)); exact rfl; exact rfl; exact rfl; kernel_rfl; (exact cnvX); exact rfl)
      | ((with_reducible apply DSat.callR (v2)); exact rfl; exact rfl; exact rfl; kernel_rfl; (exact cnvX); exact rfl)
      | ((with_reducible apply Sat.callG1 (v2)); exact rfl; exact rfl; exact rfl; exact rfl; kernel_rfl; (intro hG; (exact cnvX)); exact rfl)
      | ((with_reducible apply DSat.callG1 (v2)); exact rfl; exact rfl; exact rfl; exact rfl; kernel_rfl; (intro hG; (exact cnvX)); exact rfl)
      | ((with_reducible apply Sat.callG1 (s1)); exact rfl; exact rfl; exact rfl; exact rfl; kernel_rfl; (intro hG; (exact cnvX)); exact rfl)
      | ((with_reducible apply DSat.callG1 (s1)); exact rfl; exact rfl; exact rfl; exact rfl; kernel_rfl; (intro hG; (exact cnvX)); exact rfl)
      | ((with_reducible apply Sat.callG1 (s2)); exact rfl; exact rfl; exact rfl; exact rfl; kernel_rfl; (intro hG; (exact cnvX)); exact rfl)
      | ((with_reducible apply DSat.callG1 (s2)); exact rfl; exact rfl; exact rfl; exact rfl; kernel_rfl; (intro hG; (exact cnvX)); exact rfl)
      | ((with_reducible apply Sat.callR (s1)); exact rfl; exact rfl; exact rfl; kernel_rfl; (exact cnvX); exact rfl)
      | ((with_reducible apply DSat.callR (s1)); exact rfl; exact rfl; exact rfl; kernel_rfl; (exact cnvX); exact rfl)
      | ((with_reducible apply Sat.callR (s2)); exact rfl; exact rfl; exact rfl; kernel_rfl; (exact cnvX); exact rfl)
      | ((with_reducible apply DSat.callR (s2)); exact rfl; exact rfl; exact rfl; kernel_rfl; (exact cnvX); exact rfl) | fail)
  all_goals (refine Sat.fin (Sat.end1 rfl rfl rfl True.intro (.refl _ purX) (by first | exact .inl rfl | exact .inr rfl) (fun _ h => h)) ?_; (first | exact rfl | exact congrArg SV.bool (by decide +kernel)))
end Go.Proofs.YtegbdcadlmefgaaDoor
end
section
namespace Go.Proofs.YtegbdcadlmefgaaDoor
open Go.RowKit Go.ChangeShapes Go.WideShapes V
set_option maxRecDepth 100000
theorem own : ownKnob Tryd.prog.godebug = none := by kernel_rfl
theorem laidOut : laidOutB Tryd.prog = true := by kernel_rfl
def errs_laid : List (String × DataW Unit) := [("bytes.ErrTooLarge", Rows.laid_bytes_ErrTooLarge)]
theorem errs_glob (W : World) (_ : laidMetH Tryd.prog errs_laid W) : GOk [] (fun _ => False) W := glob_nil
theorem door_met (os : Os) (args : Array Value) : laidMetH Tryd.prog errs_laid ((World.doorLaid Tryd.prog 300 os).forCall (fun _ _ => 0) ⟨#[], args, []⟩).memory :=
  laidMetH_of_parts3 (fuel := 8) (laidMet_of_run' 8 (by kernel_rfl) (by kernel_rfl)) (by kernel_rfl) (by kernel_rfl)
end Go.Proofs.YtegbdcadlmefgaaDoor
end
section
namespace Go.Proofs.YtegbdcadlmefgaaDoor
open Go.RowKit V
set_option maxRecDepth 100000
variable {H : Type}
theorem map_nthD {α : Type} (f : DataW H → α) : ∀ (l : List (DataW H)) (i : Nat), (l.map f).getD i (f .nil) = f (nthD l i)
  | [], i => rfl
  | x :: r, 0 => rfl
  | x :: r, i + 1 => by
    simp only [List.map_cons, List.getD_cons_succ, nthD]
    exact map_nthD f r i
def partD (d : DataW H) : PartL := ⟨sOf (nthD (ptsD d) 0), (ptsD (nthD (ptsD d) 1)).map u8Of⟩
def keyD (d : DataW H) : List UInt8 := (ptsD d).map u8Of
def roleD (d : DataW H) : RoleL := ⟨sOf (nthD (ptsD d) 0), (eOf (nthD (ptsD d) 1)).map iOf, iOf (nthD (ptsD d) 2)⟩
def relD (d : DataW H) : Rel := ⟨iOf (nthD (ptsD d) 0), iOf (nthD (ptsD d) 1), iOf (nthD (ptsD d) 2), iOf (nthD (ptsD d) 3), (ptsD (nthD (ptsD d) 4)).map u8Of, iOf (nthD (ptsD d) 5), (ptsD (nthD (ptsD d) 6)).map u8Of, (eOf (nthD (ptsD d) 7)).map iOf, (eOf (nthD (ptsD d) 8)).map partD⟩
def rootD (d : DataW H) : RootL := ⟨iOf (nthD (ptsD d) 0), iOf (nthD (ptsD d) 1), (eOf (nthD (ptsD d) 2)).map keyD, (eOf (nthD (ptsD d) 3)).map roleD⟩
theorem partsD_eq (l : List (DataW H)) : partsE (l.map partD) = .g l.length 33 fun i => [.str (sOf (nthD (ptsD (nthD l i)) 0)), .arr 32 (.u8 ((ptsD (nthD (ptsD (nthD l i)) 1)).map u8Of))] := by
  show EV.g _ _ _ = _
  rw [List.length_map]
  congr 1
  funext i
  have h : (l.map partD).getD i part0 = partD (nthD l i) := map_nthD partD l i
  rw [h]
  rfl
theorem keysD_eq (l : List (DataW H)) : keysE (l.map keyD) = .g l.length 32 fun i => [.arr 32 (.u8 ((ptsD (nthD l i)).map u8Of))] := by
  show EV.g _ _ _ = _
  rw [List.length_map]
  congr 1
  funext i
  have h : (l.map keyD).getD i [] = keyD (nthD l i) := map_nthD keyD l i
  rw [h]
  rfl
theorem rolesD_eq (l : List (DataW H)) : rolesE (l.map roleD) = .g l.length 3 fun i => [.str (sOf (nthD (ptsD (nthD l i)) 0)), .ro (.ints .i64 ((eOf (nthD (ptsD (nthD l i)) 1)).map iOf)), .int .i64 (iOf (nthD (ptsD (nthD l i)) 2))] := by
  show EV.g _ _ _ = _
  rw [List.length_map]
  congr 1
  funext i
  have h : (l.map roleD).getD i role0 = roleD (nthD l i) := map_nthD roleD l i
  rw [h]
  rfl
theorem relD_v (d : DataW H) : (relD d).v = .agg [.int .i64 (iOf (nthD (ptsD d) 0)), .int .i64 (iOf (nthD (ptsD d) 1)), .int .i64 (iOf (nthD (ptsD d) 2)), .int .i64 (iOf (nthD (ptsD d) 3)), .arr 32 (.u8 ((ptsD (nthD (ptsD d) 4)).map u8Of)), .int .i64 (iOf (nthD (ptsD d) 5)), .arr 32 (.u8 ((ptsD (nthD (ptsD d) 6)).map u8Of)), .ro (.ints .i64 ((eOf (nthD (ptsD d) 7)).map iOf)),
    .ro (.g (eOf (nthD (ptsD d) 8)).length 33 fun i => [.str (sOf (nthD (ptsD (nthD (eOf (nthD (ptsD d) 8)) i)) 0)), .arr 32 (.u8 ((ptsD (nthD (ptsD (nthD (eOf (nthD (ptsD d) 8)) i)) 1)).map u8Of))])] := by
  rw [← partsD_eq]
  rfl
theorem rootD_v (d : DataW H) : (rootD d).v = .agg [.int .i64 (iOf (nthD (ptsD d) 0)), .int .i64 (iOf (nthD (ptsD d) 1)), .ro (.g (eOf (nthD (ptsD d) 2)).length 32 fun i => [.arr 32 (.u8 ((ptsD (nthD (eOf (nthD (ptsD d) 2)) i)).map u8Of))]),
    .ro (.g (eOf (nthD (ptsD d) 3)).length 3 fun i => [.str (sOf (nthD (ptsD (nthD (eOf (nthD (ptsD d) 3)) i)) 0)), .ro (.ints .i64 ((eOf (nthD (ptsD (nthD (eOf (nthD (ptsD d) 3)) i)) 1)).map iOf)), .int .i64 (iOf (nthD (ptsD (nthD (eOf (nthD (ptsD d) 3)) i)) 2))])] := by
  rw [← keysD_eq, ← rolesD_eq]
  rfl
end Go.Proofs.YtegbdcadlmefgaaDoor
end
section
namespace Go.Proofs.YtegbdcadlmefgaaDoor
open Go.RowKit V
--PURE: (intro _ _; simp [pureL, pureS, pureE]; done)
set_option maxRecDepth 100000
set_option maxHeartbeats 4000000
set_option linter.unusedSimpArgs false
attribute [local irreducible] V.Sat V.DSat
def RawL.l (x : RawL) : List SV := [.int .u16 (x.version : Int), .int .u16 (x.floor : Int), .int .u32 (x.expiry : Int), .int .u32 (x.size : Int), .int .u8 (x.s0.toNat : Int), .int .u8 (x.s1.toNat : Int), .ro (.u8 x.gone), .ro (.u8 x.parts)]
def RawQ.l (x : RawQ) : List SV := [.int .u16 (x.gen : Int), .int .u32 (x.expiry : Int), .ro (.u8 x.keys), .ro (rawRoles x.roles)]
theorem same_bytes (r q : Rel) (hv : validB r = true) (hw : RelW r) (hv' : validB q = true) (hw' : RelW q) : Fun Tryd.prog [] 14 [.ro (.u8 (bytesR r)), .ro (.u8 (bytesR q))] (.bool (relEq r q)) := by
  have h := same_ref (bytesR r) (bytesR q)
  rw [show decide (bytesR r = bytesR q) = relEq r q from ?_] at h
  · exact h
  · cases he : relEq r q with
    | true => rw [(relEq_iff r q).1 he]; exact decide_eq_true rfl
    | false =>
      refine decide_eq_false fun hb => ?_
      rw [(relEq_iff r q).2 (bytesR_inj hv hw hv' hw' hb)] at he
      cases he
theorem same_bytesQ (r q : RootL) (hv : rootB r = true) (hw : RootW r) (hv' : rootB q = true) (hw' : RootW q) : Fun Tryd.prog [] 14 [.ro (.u8 (bytesQ r)), .ro (.u8 (bytesQ q))] (.bool (rootEq r q)) := by
  have h := same_ref (bytesQ r) (bytesQ q)
  rw [show decide (bytesQ r = bytesQ q) = rootEq r q from ?_] at h
  · exact h
  · cases he : rootEq r q with
    | true => rw [(rootEq_iff r q).1 he]; exact decide_eq_true rfl
    | false =>
      refine decide_eq_false fun hb => ?_
      rw [(rootEq_iff r q).2 (bytesQ_inj hv hw hv' hw' hb)] at he
      cases he
theorem differs_law (x1 x2 : RawL) (y1 y2 : RawQ) : Fun Tryd.prog [] 7 [.agg (x1.l ++ x2.l), .agg (y1.l ++ y2.l)] (.bool true) := by
  unfold RawL.l RawQ.l
  dsimp only [List.cons_append, List.nil_append]
  refine Fun.mkF 7 Tryd.func7 rfl Tryd.ntmps7 rfl rfl fun hf T w0 => ?_
  have f1 := u16_iff hf.1.1
  have f2 := u16_iff hf.1.2.2.2.2.2.2.2.2.1
  have f3 := u16_iff hf.2.1.1
  have f4 := u16_iff hf.2.1.2.2.2.2.1
  have m1 := made_walk x1 (by omega)
  have m2 := made_walk x2 (by omega)
  have m3 := madeRoot_walk y1
  have m4 := madeRoot_walk y2
  have v1 := madeR_valid x1
  have w1 := madeR_wf x1
  have v2 := madeR_valid x2
  have w2 := madeR_wf x2
  have v3 := madeQ_valid y1 (by omega)
  have w3 := madeQ_wf y1
  have v4 := madeQ_valid y2 (by omega)
  have w4 := madeQ_wf y2
  generalize madeR x1 = r1 at *
  generalize madeR x2 = r2 at *
  generalize madeQ y1 = q1 at *
  generalize madeQ y2 = q2 at *
  have b1 := bytes_spec r1 v1
  have b2 := bytes_spec r2 v2
  have b3 := rootBytes_spec q1 v3
  have b4 := rootBytes_spec q2 v4
  have e1 := same_bytes r1 r2 v1 w1 v2 w2
  have e2 := same_bytesQ q1 q2 v3 w3 v4 w4
  have s1 := same_rel r1 r2
  have s2 := same_root q1 q2
  generalize relEq r1 r2 = z1 at *
  generalize rootEq q1 q2 = z2 at *
  rcases z1 with _ | _ <;> rcases z2 with _ | _
  · repeat' (first
        | ((with_reducible apply Sat.run (X := X64)); exact rfl; (first | exact True.intro | (exact phi) | skip))
        | ((with_reducible apply Sat.drawn); kernel_rfl)
        | ((with_reducible apply DSat.run (X := X64)); exact rfl; (first | exact True.intro | (exact phi) | skip))
        | ((with_reducible apply DSat.fin); kernel_rfl)
        | ((with_reducible apply Sat.cond_t); exact rfl)
        | ((with_reducible apply Sat.cond_f); exact rfl)
        | ((with_reducible apply Sat.cond_pt); exact rfl; (try dsimp only [V.EV.sub, V.EV.len]); first | assumption | omega)
        | ((with_reducible apply Sat.cond_pf); exact rfl; (try dsimp only [V.EV.sub, V.EV.len]); first | assumption | omega)
        | ((with_reducible apply Sat.cond_p); exact rfl; all_goals intro h)
        | ((with_reducible apply Sat.cond); exact rfl; all_goals intro h)
        | ((with_reducible apply Sat.gon); exact rfl; first | exact rfl | (decide +kernel))
        | ((with_reducible apply Sat.call0 (sanity_law)); exact rfl; exact rfl; kernel_rfl; exact rfl)
        | ((with_reducible apply DSat.call0 (sanity_law)); exact rfl; exact rfl; kernel_rfl; exact rfl)
        | ((with_reducible apply DSat.callM0 (sanity_law)); exact rfl; exact rfl; (first | exact rfl | assumption | (decide +kernel)); exact rfl; kernel_rfl; exact rfl)
        | ((with_reducible apply Sat.call (m1)); exact rfl; exact rfl; kernel_rfl; (exact cnvX); exact rfl)
        | ((with_reducible apply DSat.call (m1)); exact rfl; exact rfl; kernel_rfl; (exact cnvX); exact rfl)
        | ((with_reducible apply Sat.call (m2)); exact rfl; exact rfl; kernel_rfl; (exact cnvX); exact rfl)
        | ((with_reducible apply DSat.call (m2)); exact rfl; exact rfl; kernel_rfl; (exact cnvX); exact rfl)
        | ((with_reducible apply Sat.call (m3)); exact rfl; exact rfl; kernel_rfl; (exact cnvX); exact rfl)
        | ((with_reducible apply DSat.call (m3)); exact rfl; exact rfl; kernel_rfl; (exact cnvX); exact rfl)
        | ((with_reducible apply Sat.call (m4)); exact rfl; exact rfl; kernel_rfl; (exact cnvX); exact rfl)
        | ((with_reducible apply DSat.call (m4)); exact rfl; exact rfl; kernel_rfl; (exact cnvX); exact rfl)
        | ((with_reducible apply Sat.call (b1)); exact rfl; exact rfl; kernel_rfl; (exact cnvX); exact rfl)
        | ((with_reducible apply DSat.call (b1)); exact rfl; exact rfl; kernel_rfl; (exact cnvX); exact rfl)
        | ((with_reducible apply Sat.call (b2)); exact rfl; exact rfl; kernel_rfl; (exact cnvX); exact rfl)
        | ((with_reducible apply DSat.call (b2)); exact rfl; exact rfl; kernel_rfl; (exact cnvX); exact rfl)
        | ((with_reducible apply Sat.call (b3)); exact rfl; exact rfl; kernel_rfl; (exact cnvX); exact rfl)
        | ((with_reducible apply DSat.call (b3)); exact rfl; exact rfl; kernel_rfl; (exact cnvX); exact rfl)
        | ((with_reducible apply Sat.call (b4)); exact rfl; exact rfl; kernel_rfl; (exact cnvX); exact rfl)
        | ((with_reducible apply DSat.call (b4)); exact rfl; exact rfl; kernel_rfl; (exact cnvX); exact rfl)
        | ((with_reducible apply Sat.callR (e1)); exact rfl; exact rfl; exact rfl; kernel_rfl; (exact cnvX); exact rfl)
        | ((with_reducible apply DSat.callR (e1)); exact rfl; exact rfl; exact rfl; kernel_rfl; (exact cnvX); exact rfl)
        | ((with_reducible apply Sat.callR (e2)); exact rfl; exact rfl; exact rfl; kernel_rfl; (exact cnvX); exact rfl)
        | ((with_reducible apply DSat.callR (e2)); exact rfl; exact rfl; exact rfl; kernel_rfl; (exact cnvX); exact rfl)
        | ((with_reducible apply Sat.callR (s1)); exact rfl; exact rfl; exact rfl; kernel_rfl; (exact cnvX); exact rfl)
        | ((with_reducible apply DSat.callR (s1)); exact rfl; exact rfl; exact rfl; kernel_rfl; (exact cnvX); exact rfl)
        | ((with_reducible apply Sat.callR (s2)); exact rfl; exact rfl; exact rfl; kernel_rfl; (exact cnvX); exact rfl)
        | ((with_reducible apply DSat.callR (s2)); exact rfl; exact rfl; exact rfl; kernel_rfl; (exact cnvX); exact rfl)
        | ((with_reducible apply DSat.callM (b3)); exact rfl; exact rfl; (first | exact rfl | assumption | (decide +kernel)); exact rfl; kernel_rfl; (exact cnvX); exact rfl)
        | ((with_reducible apply DSat.callM (b4)); exact rfl; exact rfl; (first | exact rfl | assumption | (decide +kernel)); exact rfl; kernel_rfl; (exact cnvX); exact rfl)
        | ((with_reducible apply Sat.callG1 (e2)); exact rfl; exact rfl; exact rfl; exact rfl; kernel_rfl; (intro hG; (exact cnvX)); exact rfl)
        | ((with_reducible apply DSat.callG1 (e2)); exact rfl; exact rfl; exact rfl; exact rfl; kernel_rfl; (intro hG; (exact cnvX)); exact rfl)
        | ((with_reducible apply Sat.callG1 (s2)); exact rfl; exact rfl; exact rfl; exact rfl; kernel_rfl; (intro hG; (exact cnvX)); exact rfl)
        | ((with_reducible apply DSat.callG1 (s2)); exact rfl; exact rfl; exact rfl; exact rfl; kernel_rfl; (intro hG; (exact cnvX)); exact rfl) | fail)
    all_goals (refine Sat.fin (Sat.end1 rfl rfl rfl True.intro (.refl _ purX) (by first | exact .inl rfl | exact .inr rfl) (fun _ h => h)) ?_; (first | exact rfl | exact congrArg SV.bool (by decide +kernel)))
  · repeat' (first
        | ((with_reducible apply Sat.run (X := X64)); exact rfl; (first | exact True.intro | (exact phi) | skip))
        | ((with_reducible apply Sat.drawn); kernel_rfl)
        | ((with_reducible apply DSat.run (X := X64)); exact rfl; (first | exact True.intro | (exact phi) | skip))
        | ((with_reducible apply DSat.fin); kernel_rfl)
        | ((with_reducible apply Sat.cond_t); exact rfl)
        | ((with_reducible apply Sat.cond_f); exact rfl)
        | ((with_reducible apply Sat.cond_pt); exact rfl; (try dsimp only [V.EV.sub, V.EV.len]); first | assumption | omega)
        | ((with_reducible apply Sat.cond_pf); exact rfl; (try dsimp only [V.EV.sub, V.EV.len]); first | assumption | omega)
        | ((with_reducible apply Sat.cond_p); exact rfl; all_goals intro h)
        | ((with_reducible apply Sat.cond); exact rfl; all_goals intro h)
        | ((with_reducible apply Sat.gon); exact rfl; first | exact rfl | (decide +kernel))
        | ((with_reducible apply Sat.call0 (sanity_law)); exact rfl; exact rfl; kernel_rfl; exact rfl)
        | ((with_reducible apply DSat.call0 (sanity_law)); exact rfl; exact rfl; kernel_rfl; exact rfl)
        | ((with_reducible apply DSat.callM0 (sanity_law)); exact rfl; exact rfl; (first | exact rfl | assumption | (decide +kernel)); exact rfl; kernel_rfl; exact rfl)
        | ((with_reducible apply Sat.call (m1)); exact rfl; exact rfl; kernel_rfl; (exact cnvX); exact rfl)
        | ((with_reducible apply DSat.call (m1)); exact rfl; exact rfl; kernel_rfl; (exact cnvX); exact rfl)
        | ((with_reducible apply Sat.call (m2)); exact rfl; exact rfl; kernel_rfl; (exact cnvX); exact rfl)
        | ((with_reducible apply DSat.call (m2)); exact rfl; exact rfl; kernel_rfl; (exact cnvX); exact rfl)
        | ((with_reducible apply Sat.call (m3)); exact rfl; exact rfl; kernel_rfl; (exact cnvX); exact rfl)
        | ((with_reducible apply DSat.call (m3)); exact rfl; exact rfl; kernel_rfl; (exact cnvX); exact rfl)
        | ((with_reducible apply Sat.call (m4)); exact rfl; exact rfl; kernel_rfl; (exact cnvX); exact rfl)
        | ((with_reducible apply DSat.call (m4)); exact rfl; exact rfl; kernel_rfl; (exact cnvX); exact rfl)
        | ((with_reducible apply Sat.call (b1)); exact rfl; exact rfl; kernel_rfl; (exact cnvX); exact rfl)
        | ((with_reducible apply DSat.call (b1)); exact rfl; exact rfl; kernel_rfl; (exact cnvX); exact rfl)
        | ((with_reducible apply Sat.call (b2)); exact rfl; exact rfl; kernel_rfl; (exact cnvX); exact rfl)
        | ((with_reducible apply DSat.call (b2)); exact rfl; exact rfl; kernel_rfl; (exact cnvX); exact rfl)
        | ((with_reducible apply Sat.call (b3)); exact rfl; exact rfl; kernel_rfl; (exact cnvX); exact rfl)
        | ((with_reducible apply DSat.call (b3)); exact rfl; exact rfl; kernel_rfl; (exact cnvX); exact rfl)
        | ((with_reducible apply Sat.call (b4)); exact rfl; exact rfl; kernel_rfl; (exact cnvX); exact rfl)
        | ((with_reducible apply DSat.call (b4)); exact rfl; exact rfl; kernel_rfl; (exact cnvX); exact rfl)
        | ((with_reducible apply Sat.callR (e1)); exact rfl; exact rfl; exact rfl; kernel_rfl; (exact cnvX); exact rfl)
        | ((with_reducible apply DSat.callR (e1)); exact rfl; exact rfl; exact rfl; kernel_rfl; (exact cnvX); exact rfl)
        | ((with_reducible apply Sat.callR (e2)); exact rfl; exact rfl; exact rfl; kernel_rfl; (exact cnvX); exact rfl)
        | ((with_reducible apply DSat.callR (e2)); exact rfl; exact rfl; exact rfl; kernel_rfl; (exact cnvX); exact rfl)
        | ((with_reducible apply Sat.callR (s1)); exact rfl; exact rfl; exact rfl; kernel_rfl; (exact cnvX); exact rfl)
        | ((with_reducible apply DSat.callR (s1)); exact rfl; exact rfl; exact rfl; kernel_rfl; (exact cnvX); exact rfl)
        | ((with_reducible apply Sat.callR (s2)); exact rfl; exact rfl; exact rfl; kernel_rfl; (exact cnvX); exact rfl)
        | ((with_reducible apply DSat.callR (s2)); exact rfl; exact rfl; exact rfl; kernel_rfl; (exact cnvX); exact rfl)
        | ((with_reducible apply DSat.callM (b3)); exact rfl; exact rfl; (first | exact rfl | assumption | (decide +kernel)); exact rfl; kernel_rfl; (exact cnvX); exact rfl)
        | ((with_reducible apply DSat.callM (b4)); exact rfl; exact rfl; (first | exact rfl | assumption | (decide +kernel)); exact rfl; kernel_rfl; (exact cnvX); exact rfl)
        | ((with_reducible apply Sat.callG1 (e2)); exact rfl; exact rfl; exact rfl; exact rfl; kernel_rfl; (intro hG; (exact cnvX)); exact rfl)
        | ((with_reducible apply DSat.callG1 (e2)); exact rfl; exact rfl; exact rfl; exact rfl; kernel_rfl; (intro hG; (exact cnvX)); exact rfl)
        | ((with_reducible apply Sat.callG1 (s2)); exact rfl; exact rfl; exact rfl; exact rfl; kernel_rfl; (intro hG; (exact cnvX)); exact rfl)
        | ((with_reducible apply DSat.callG1 (s2)); exact rfl; exact rfl; exact rfl; exact rfl; kernel_rfl; (intro hG; (exact cnvX)); exact rfl) | fail)
    all_goals (refine Sat.fin (Sat.end1 rfl rfl rfl True.intro (.refl _ purX) (by first | exact .inl rfl | exact .inr rfl) (fun _ h => h)) ?_; (first | exact rfl | exact congrArg SV.bool (by decide +kernel)))
  · repeat' (first
        | ((with_reducible apply Sat.run (X := X64)); exact rfl; (first | exact True.intro | (exact phi) | skip))
        | ((with_reducible apply Sat.drawn); kernel_rfl)
        | ((with_reducible apply DSat.run (X := X64)); exact rfl; (first | exact True.intro | (exact phi) | skip))
        | ((with_reducible apply DSat.fin); kernel_rfl)
        | ((with_reducible apply Sat.cond_t); exact rfl)
        | ((with_reducible apply Sat.cond_f); exact rfl)
        | ((with_reducible apply Sat.cond_pt); exact rfl; (try dsimp only [V.EV.sub, V.EV.len]); first | assumption | omega)
        | ((with_reducible apply Sat.cond_pf); exact rfl; (try dsimp only [V.EV.sub, V.EV.len]); first | assumption | omega)
        | ((with_reducible apply Sat.cond_p); exact rfl; all_goals intro h)
        | ((with_reducible apply Sat.cond); exact rfl; all_goals intro h)
        | ((with_reducible apply Sat.gon); exact rfl; first | exact rfl | (decide +kernel))
        | ((with_reducible apply Sat.call0 (sanity_law)); exact rfl; exact rfl; kernel_rfl; exact rfl)
        | ((with_reducible apply DSat.call0 (sanity_law)); exact rfl; exact rfl; kernel_rfl; exact rfl)
        | ((with_reducible apply DSat.callM0 (sanity_law)); exact rfl; exact rfl; (first | exact rfl | assumption | (decide +kernel)); exact rfl; kernel_rfl; exact rfl)
        | ((with_reducible apply Sat.call (m1)); exact rfl; exact rfl; kernel_rfl; (exact cnvX); exact rfl)
        | ((with_reducible apply DSat.call (m1)); exact rfl; exact rfl; kernel_rfl; (exact cnvX); exact rfl)
        | ((with_reducible apply Sat.call (m2)); exact rfl; exact rfl; kernel_rfl; (exact cnvX); exact rfl)
        | ((with_reducible apply DSat.call (m2)); exact rfl; exact rfl; kernel_rfl; (exact cnvX); exact rfl)
        | ((with_reducible apply Sat.call (m3)); exact rfl; exact rfl; kernel_rfl; (exact cnvX); exact rfl)
        | ((with_reducible apply DSat.call (m3)); exact rfl; exact rfl; kernel_rfl; (exact cnvX); exact rfl)
        | ((with_reducible apply Sat.call (m4)); exact rfl; exact rfl; kernel_rfl; (exact cnvX); exact rfl)
        | ((with_reducible apply DSat.call (m4)); exact rfl; exact rfl; kernel_rfl; (exact cnvX); exact rfl)
        | ((with_reducible apply Sat.call (b1)); exact rfl; exact rfl; kernel_rfl; (exact cnvX); exact rfl)
        | ((with_reducible apply DSat.call (b1)); exact rfl; exact rfl; kernel_rfl; (exact cnvX); exact rfl)
        | ((with_reducible apply Sat.call (b2)); exact rfl; exact rfl; kernel_rfl; (exact cnvX); exact rfl)
        | ((with_reducible apply DSat.call (b2)); exact rfl; exact rfl; kernel_rfl; (exact cnvX); exact rfl)
        | ((with_reducible apply Sat.call (b3)); exact rfl; exact rfl; kernel_rfl; (exact cnvX); exact rfl)
        | ((with_reducible apply DSat.call (b3)); exact rfl; exact rfl; kernel_rfl; (exact cnvX); exact rfl)
        | ((with_reducible apply Sat.call (b4)); exact rfl; exact rfl; kernel_rfl; (exact cnvX); exact rfl)
        | ((with_reducible apply DSat.call (b4)); exact rfl; exact rfl; kernel_rfl; (exact cnvX); exact rfl)
        | ((with_reducible apply Sat.callR (e1)); exact rfl; exact rfl; exact rfl; kernel_rfl; (exact cnvX); exact rfl)
        | ((with_reducible apply DSat.callR (e1)); exact rfl; exact rfl; exact rfl; kernel_rfl; (exact cnvX); exact rfl)
        | ((with_reducible apply Sat.callR (e2)); exact rfl; exact rfl; exact rfl; kernel_rfl; (exact cnvX); exact rfl)
        | ((with_reducible apply DSat.callR (e2)); exact rfl; exact rfl; exact rfl; kernel_rfl; (exact cnvX); exact rfl)
        | ((with_reducible apply Sat.callR (s1)); exact rfl; exact rfl; exact rfl; kernel_rfl; (exact cnvX); exact rfl)
        | ((with_reducible apply DSat.callR (s1)); exact rfl; exact rfl; exact rfl; kernel_rfl; (exact cnvX); exact rfl)
        | ((with_reducible apply Sat.callR (s2)); exact rfl; exact rfl; exact rfl; kernel_rfl; (exact cnvX); exact rfl)
        | ((with_reducible apply DSat.callR (s2)); exact rfl; exact rfl; exact rfl; kernel_rfl; (exact cnvX); exact rfl)
        | ((with_reducible apply DSat.callM (b3)); exact rfl; exact rfl; (first | exact rfl | assumption | (decide +kernel)); exact rfl; kernel_rfl; (exact cnvX); exact rfl)
        | ((with_reducible apply DSat.callM (b4)); exact rfl; exact rfl; (first | exact rfl | assumption | (decide +kernel)); exact rfl; kernel_rfl; (exact cnvX); exact rfl)
        | ((with_reducible apply Sat.callG1 (e2)); exact rfl; exact rfl; exact rfl; exact rfl; kernel_rfl; (intro hG; (exact cnvX)); exact rfl)
        | ((with_reducible apply DSat.callG1 (e2)); exact rfl; exact rfl; exact rfl; exact rfl; kernel_rfl; (intro hG; (exact cnvX)); exact rfl)
        | ((with_reducible apply Sat.callG1 (s2)); exact rfl; exact rfl; exact rfl; exact rfl; kernel_rfl; (intro hG; (exact cnvX)); exact rfl)
        | ((with_reducible apply DSat.callG1 (s2)); exact rfl; exact rfl; exact rfl; exact rfl; kernel_rfl; (intro hG; (exact cnvX)); exact rfl) | fail)
    all_goals (refine Sat.fin (Sat.end1 rfl rfl rfl True.intro (.refl _ purX) (by first | exact .inl rfl | exact .inr rfl) (fun _ h => h)) ?_; (first | exact rfl | exact congrArg SV.bool (by decide +kernel)))
  · repeat' (first
        | ((with_reducible apply Sat.run (X := X64)); exact rfl; (first | exact True.intro | (exact phi) | skip))
        | ((with_reducible apply Sat.drawn); kernel_rfl)
        | ((with_reducible apply DSat.run (X := X64)); exact rfl; (first | exact True.intro | (exact phi) | skip))
        | ((with_reducible apply DSat.fin); kernel_rfl)
        | ((with_reducible apply Sat.cond_t); exact rfl)
        | ((with_reducible apply Sat.cond_f); exact rfl)
        | ((with_reducible apply Sat.cond_pt); exact rfl; (try dsimp only [V.EV.sub, V.EV.len]); first | assumption | omega)
        | ((with_reducible apply Sat.cond_pf); exact rfl; (try dsimp only [V.EV.sub, V.EV.len]); first | assumption | omega)
        | ((with_reducible apply Sat.cond_p); exact rfl; all_goals intro h)
        | ((with_reducible apply Sat.cond); exact rfl; all_goals intro h)
        | ((with_reducible apply Sat.gon); exact rfl; first | exact rfl | (decide +kernel))
        | ((with_reducible apply Sat.call0 (sanity_law)); exact rfl; exact rfl; kernel_rfl; exact rfl)
        | ((with_reducible apply DSat.call0 (sanity_law)); exact rfl; exact rfl; kernel_rfl; exact rfl)
        | ((with_reducible apply DSat.callM0 (sanity_law)); exact rfl; exact rfl; (first | exact rfl | assumption | (decide +kernel)); exact rfl; kernel_rfl; exact rfl)
        | ((with_reducible apply Sat.call (m1)); exact rfl; exact rfl; kernel_rfl; (exact cnvX); exact rfl)
        | ((with_reducible apply DSat.call (m1)); exact rfl; exact rfl; kernel_rfl; (exact cnvX); exact rfl)
        | ((with_reducible apply Sat.call (m2)); exact rfl; exact rfl; kernel_rfl; (exact cnvX); exact rfl)
        | ((with_reducible apply DSat.call (m2)); exact rfl; exact rfl; kernel_rfl; (exact cnvX); exact rfl)
        | ((with_reducible apply Sat.call (m3)); exact rfl; exact rfl; kernel_rfl; (exact cnvX); exact rfl)
        | ((with_reducible apply DSat.call (m3)); exact rfl; exact rfl; kernel_rfl; (exact cnvX); exact rfl)
        | ((with_reducible apply Sat.call (m4)); exact rfl; exact rfl; kernel_rfl; (exact cnvX); exact rfl)
        | ((with_reducible apply DSat.call (m4)); exact rfl; exact rfl; kernel_rfl; (exact cnvX); exact rfl)
        | ((with_reducible apply Sat.call (b1)); exact rfl; exact rfl; kernel_rfl; (exact cnvX); exact rfl)
        | ((with_reducible apply DSat.call (b1)); exact rfl; exact rfl; kernel_rfl; (exact cnvX); exact rfl)
        | ((with_reducible apply Sat.call (b2)); exact rfl; exact rfl; kernel_rfl; (exact cnvX); exact rfl)
        | ((with_reducible apply DSat.call (b2)); exact rfl; exact rfl; kernel_rfl; (exact cnvX); exact rfl)
        | ((with_reducible apply Sat.call (b3)); exact rfl; exact rfl; kernel_rfl; (exact cnvX); exact rfl)
        | ((with_reducible apply DSat.call (b3)); exact rfl; exact rfl; kernel_rfl; (exact cnvX); exact rfl)
        | ((with_reducible apply Sat.call (b4)); exact rfl; exact rfl; kernel_rfl; (exact cnvX); exact rfl)
        | ((with_reducible apply DSat.call (b4)); exact rfl; exact rfl; kernel_rfl; (exact cnvX); exact rfl)
        | ((with_reducible apply Sat.callR (e1)); exact rfl; exact rfl; exact rfl; kernel_rfl; (exact cnvX); exact rfl)
        | ((with_reducible apply DSat.callR (e1)); exact rfl; exact rfl; exact rfl; kernel_rfl; (exact cnvX); exact rfl)
        | ((with_reducible apply Sat.callR (e2)); exact rfl; exact rfl; exact rfl; kernel_rfl; (exact cnvX); exact rfl)
        | ((with_reducible apply DSat.callR (e2)); exact rfl; exact rfl; exact rfl; kernel_rfl; (exact cnvX); exact rfl)
        | ((with_reducible apply Sat.callR (s1)); exact rfl; exact rfl; exact rfl; kernel_rfl; (exact cnvX); exact rfl)
        | ((with_reducible apply DSat.callR (s1)); exact rfl; exact rfl; exact rfl; kernel_rfl; (exact cnvX); exact rfl)
        | ((with_reducible apply Sat.callR (s2)); exact rfl; exact rfl; exact rfl; kernel_rfl; (exact cnvX); exact rfl)
        | ((with_reducible apply DSat.callR (s2)); exact rfl; exact rfl; exact rfl; kernel_rfl; (exact cnvX); exact rfl)
        | ((with_reducible apply DSat.callM (b3)); exact rfl; exact rfl; (first | exact rfl | assumption | (decide +kernel)); exact rfl; kernel_rfl; (exact cnvX); exact rfl)
        | ((with_reducible apply DSat.callM (b4)); exact rfl; exact rfl; (first | exact rfl | assumption | (decide +kernel)); exact rfl; kernel_rfl; (exact cnvX); exact rfl)
        | ((with_reducible apply Sat.callG1 (e2)); exact rfl; exact rfl; exact rfl; exact rfl; kernel_rfl; (intro hG; (exact cnvX)); exact rfl)
        | ((with_reducible apply DSat.callG1 (e2)); exact rfl; exact rfl; exact rfl; exact rfl; kernel_rfl; (intro hG; (exact cnvX)); exact rfl)
        | ((with_reducible apply Sat.callG1 (s2)); exact rfl; exact rfl; exact rfl; exact rfl; kernel_rfl; (intro hG; (exact cnvX)); exact rfl)
        | ((with_reducible apply DSat.callG1 (s2)); exact rfl; exact rfl; exact rfl; exact rfl; kernel_rfl; (intro hG; (exact cnvX)); exact rfl) | fail)
    all_goals (refine Sat.fin (Sat.end1 rfl rfl rfl True.intro (.refl _ purX) (by first | exact .inl rfl | exact .inr rfl) (fun _ h => h)) ?_; (first | exact rfl | exact congrArg SV.bool (by decide +kernel)))
end Go.Proofs.YtegbdcadlmefgaaDoor
end
section
namespace Go.Proofs.YtegbdcadlmefgaaDoor
open Go.RowKit V
set_option maxRecDepth 100000
section
variable {H : Type}
@[reducible] def rawSV (d : DataW H) : List SV := [.int .u16 (iOf (nthD (ptsD d) 0)), .int .u16 (iOf (nthD (ptsD d) 1)), .int .u32 (iOf (nthD (ptsD d) 2)), .int .u32 (iOf (nthD (ptsD d) 3)), .int .u8 (iOf (nthD (ptsD (nthD (ptsD d) 4)) 0)), .int .u8 (iOf (nthD (ptsD (nthD (ptsD d) 4)) 1)), .ro (.u8 ((eOf (nthD (ptsD d) 5)).map u8Of)), .ro (.u8 ((eOf (nthD (ptsD d) 6)).map u8Of))]
def rawD (d : DataW H) : RawL := ⟨(iOf (nthD (ptsD d) 0)).toNat, (iOf (nthD (ptsD d) 1)).toNat, (iOf (nthD (ptsD d) 2)).toNat, (iOf (nthD (ptsD d) 3)).toNat, u8Of (nthD (ptsD (nthD (ptsD d) 4)) 0), u8Of (nthD (ptsD (nthD (ptsD d) 4)) 1), (eOf (nthD (ptsD d) 5)).map u8Of, (eOf (nthD (ptsD d) 6)).map u8Of⟩
@[reducible] def rolesSV (l : List (DataW H)) : EV := .g l.length 2 fun i => [.int .u8 (iOf (nthD (ptsD (nthD l i)) 0)), .int .u8 (iOf (nthD (ptsD (nthD l i)) 1))]
@[reducible] def rawQSV (d : DataW H) : List SV := [.int .u16 (iOf (nthD (ptsD d) 0)), .int .u32 (iOf (nthD (ptsD d) 1)), .ro (.u8 ((eOf (nthD (ptsD d) 2)).map u8Of)), .ro (rolesSV (eOf (nthD (ptsD d) 3)))]
def pairD (d : DataW H) : UInt8 × UInt8 := (u8Of (nthD (ptsD d) 0), u8Of (nthD (ptsD d) 1))
def rawQD (d : DataW H) : RawQ := ⟨(iOf (nthD (ptsD d) 0)).toNat, (iOf (nthD (ptsD d) 1)).toNat, (eOf (nthD (ptsD d) 2)).map u8Of, (eOf (nthD (ptsD d) 3)).map pairD⟩
theorem u8Of_i (x : DataW H) (h : inR .u8 (iOf x)) : iOf x = ((u8Of x).toNat : Int) := by
  have h1 := u8_iff h
  unfold u8Of
  have h2 : (iOf x).toNat < 256 := by omega
  rw [UInt8.toNat_ofNat_of_lt' h2]
  omega
theorem rawD_l (d : DataW H) (h : factsL (rawSV d)) : rawSV d = (rawD d).l := by
  obtain ⟨h0, h1, h2, h3, h4, h5, _⟩ := h
  have a0 := u16_iff h0
  have a1 := u16_iff h1
  have a2 := u32_iff h2
  have a3 := u32_iff h3
  show [_, _, _, _, _, _, _, _] = [SV.int .u16 (((iOf (nthD (ptsD d) 0)).toNat : Nat) : Int), SV.int .u16 (((iOf (nthD (ptsD d) 1)).toNat : Nat) : Int), SV.int .u32 (((iOf (nthD (ptsD d) 2)).toNat : Nat) : Int), SV.int .u32 (((iOf (nthD (ptsD d) 3)).toNat : Nat) : Int), SV.int .u8 ((u8Of (nthD (ptsD (nthD (ptsD d) 4)) 0)).toNat : Int), SV.int .u8 ((u8Of (nthD (ptsD (nthD (ptsD d) 4)) 1)).toNat : Int), _, _]
  rw [Int.toNat_of_nonneg a0.1, Int.toNat_of_nonneg a1.1, Int.toNat_of_nonneg a2.1, Int.toNat_of_nonneg a3.1, ← u8Of_i _ h4, ← u8Of_i _ h5]
  rfl
theorem rolesSV_eq (l : List (DataW H)) (h : ∀ i, i < l.length → inR .u8 (iOf (nthD (ptsD (nthD l i)) 0)) ∧ inR .u8 (iOf (nthD (ptsD (nthD l i)) 1))) : rolesSV l = rawRoles (l.map pairD) := by
  show EV.g _ _ _ = EV.g _ _ _
  rw [List.length_map]
  congr 1
  funext i
  have e : (l.map pairD).getD i (0, 0) = pairD (nthD l i) := map_nthD pairD l i
  rw [e]
  by_cases hi : i < l.length
  · obtain ⟨h1, h2⟩ := h i hi
    show [SV.int .u8 _, SV.int .u8 _] = [SV.int .u8 ((u8Of (nthD (ptsD (nthD l i)) 0)).toNat : Int), SV.int .u8 ((u8Of (nthD (ptsD (nthD l i)) 1)).toNat : Int)]
    rw [← u8Of_i _ h1, ← u8Of_i _ h2]
  · rw [nthD_out l i (by omega)]
    rfl
theorem rawQD_l (d : DataW H) (h : factsL (rawQSV d)) : rawQSV d = (rawQD d).l := by
  obtain ⟨h0, h1, _, ⟨_, h3⟩, _⟩ := h
  have a0 := u16_iff h0
  have a1 := u32_iff h1
  have e := rolesSV_eq (eOf (nthD (ptsD d) 3)) fun i hi => ⟨(h3 i hi).1, (h3 i hi).2.1⟩
  show [_, _, _, SV.ro (rolesSV (eOf (nthD (ptsD d) 3)))] = [SV.int .u16 (((iOf (nthD (ptsD d) 0)).toNat : Nat) : Int), SV.int .u32 (((iOf (nthD (ptsD d) 1)).toNat : Nat) : Int), _, SV.ro (rawRoles ((eOf (nthD (ptsD d) 3)).map pairD))]
  rw [Int.toNat_of_nonneg a0.1, Int.toNat_of_nonneg a1.1, e]
  rfl
end
end Go.Proofs.YtegbdcadlmefgaaDoor
end
section
namespace Go.Proofs.YtegbdcadlmefgaaDoor
open Go.RowKit Go.ChangeShapes Go.WideShapes V
set_option maxRecDepth 100000
set_option maxHeartbeats 8000000
theorem metaDiffers_step (os : Os) (started : os.Started) (H : Type) (enc : TypeId × Value → H) (F : Stop.Interp) :
    ReturnsInHanded {} Tryd.checked os 7 .any ((OpenSpec.ofChange Rows.metaDiffersSpec).preRow enc Tryd.prog Tryd.f7 Rows.metaDiffersRow.domain false Rows.metaDiffersRow.laid) (((OpenSpec.ofChange Rows.metaDiffersSpec).at F).post enc Tryd.prog Tryd.f7 false true false false) := by
  refine law_step (C := Tryd.checked) (fn := Tryd.f7) (s := OpenSpec.ofChange Rows.metaDiffersSpec) (F := F) (tb := 4) [] own started (by kernel_rfl) Tryd.func7 laidOut (by kernel_rfl) (by kernel_rfl) (by kernel_rfl) Tryd.underlying4 rfl ?_
    (row_witness (World.doorLaid Tryd.prog 300 os) #[.agg #[.int .u16 0, .int .u16 0, .int .u32 0, .int .u32 0, .int .u8 0, .int .u8 0, .slice none 0 0, .slice none 0 0, .int .u16 0, .int .u16 0, .int .u32 0, .int .u32 0, .int .u8 0, .int .u8 0, .slice none 0 0, .slice none 0 0], .agg #[.int .u16 0, .int .u32 0, .slice none 0 0, .slice none 0 0, .int .u16 0, .int .u32 0, .slice none 0 0, .slice none 0 0]] rfl (by kernel_rfl) (by kernel_rfl) (by kernel_rfl) (by kernel_rfl) (by kernel_rfl) (door_met os _)) errs_glob ?_
  · intro ds hl
    obtain ⟨d1, d2, rfl⟩ := list_len2 hl
    rfl
  · intro W vs ds hl ht hk
    obtain ⟨d1, d2, rfl⟩ := list_len2 hl
    refine Fun.facts fun hf => ?_
    show Fun _ _ _ [.agg (rawSV (nthD (ptsD d1) 0) ++ rawSV (nthD (ptsD d1) 1)), .agg (rawQSV (nthD (ptsD d2) 0) ++ rawQSV (nthD (ptsD d2) 1))] _
    obtain ⟨⟨a0, a1, a2, a3, a4, a5, a6, a7, ha⟩, ⟨b0, b1, b2, b3, hb⟩, _⟩ := hf
    rw [rawD_l (nthD (ptsD d1) 0) ⟨a0, a1, a2, a3, a4, a5, a6, a7, trivial⟩, rawD_l (nthD (ptsD d1) 1) ha, rawQD_l (nthD (ptsD d2) 0) ⟨b0, b1, b2, b3, trivial⟩, rawQD_l (nthD (ptsD d2) 1) hb]
    exact differs_law _ _ _ _
theorem metaDiffers_said : Rows.MetaDiffersSaid :=
  OpenClaim.holds_of_cond 7 Tryd.f7 rfl rfl rfl rfl rfl rfl rfl ⟨rfl, rfl, rfl, rfl, rfl⟩ rfl rfl rfl rfl rfl (by kernel_rfl) Tryd.func7 (by kernel_rfl)
    (of_decide_eq_true (by kernel_rfl)) (by unfold Func.isWrapper; first | (rw [if_pos (by decide +kernel)]; kernel_rfl) | (rw [if_neg (by decide +kernel)]; exact ⟨rfl, rfl⟩))
    (fun os started H enc _ F => by rw [OpenClaim.pre_eq_preRow]; exact metaDiffers_step os started H enc F)
theorem metaDiffers_plain (f : FuncId) (fn : Func) (hf : Tryd.pinned.checked.prog.funcNamed "inlay/inlaylaw26.MetaDiffers" = some f) (hfn : Tryd.pinned.checked.prog.funcs[f]? = some fn) :
    false = Tryd.pinned.checked.prog.looks [] ∧ ∀ (j : Nat) t, fn.params[j]? = some t → Tryd.pinned.checked.prog.wantsStandIn t = false := by
  obtain rfl : f = 7 := Option.some.inj ((show Tryd.prog.funcNamed "inlay/inlaylaw26.MetaDiffers" = some 7 by kernel_rfl).symm.trans hf) |>.symm
  obtain rfl : fn = Tryd.f7 := (Option.some.inj (Tryd.func7.symm.trans hfn)).symm
  refine ⟨by kernel_rfl, fun j t ht => ?_⟩
  have hall : Tryd.f7.params.all (fun t => !(Tryd.prog.wantsStandIn t)) = true := by kernel_rfl
  have := (Array.all_eq_true_iff_forall_mem.1 hall) t (Array.mem_of_getElem? ht)
  have h2 : Tryd.prog.wantsStandIn t = false := by simpa using this
  exact h2
/-- The card. -/
theorem metaDiffers_card : Rows.MetaDiffersCardSaid :=
  Claim7.holds_tied_plain_at .later [] _ _ _ _ metaDiffers_said (fun _ h => by cases h) (by kernel_rfl) (fun _ h => by cases h) metaDiffers_row_tie rfl ⟨rfl, rfl⟩ (by kernel_rfl) rfl metaDiffers_plain (by kernel_rfl)
end Go.Proofs.YtegbdcadlmefgaaDoor
end
