/-
  Joined texts: OA: Meta: what is written is read again (MetaRoundTrips); different releases and roots have different bytes (MetaDiffers).
  NZ: Meta: what the rows list (the error value of package bytes), as the door lays it.
  NR: Meta: what the readings of the arguments say, as releases, roots and raw numbers.
  OB: Meta: different releases and roots have different bytes (MetaDiffers).
  OT: Meta: the raw numbers that the readings of the arguments tell.
  OC: Meta: numbers are accepted exactly in their ranges (MetaLimits).
  OD: Meta: the need of a role (MetaLimits, last case).
  Z7: The law inlaylaw26.MetaLimits returns true for every input, and each argument reads behind the call as it read before: numbers of a release and a root are accepted exactly in their ranges.
  Conditions: the package variable bytes.ErrTooLarge holds, when the call begins, what the program's text lays there (the card ties it); no other narrowing.
-/
import Derived.Test.YtegbdcadlmefgaaDoorQE
import Derived.Test.YtegbdcadlmefgaaDoorQC
import Derived.Test.YtegbdcadlmefgaaDoorQB
import Derived.Test.YtegbdcadlmefgaaDoorCards
import Derived.Test.YtegbdcadlmefgaaDoorTie
import Derived.Lib.LaidTab
import Derived.MakeChecks
import Derived.Stop.LaidErr
import Derived.SevenTiedAt
section
namespace Go.Proofs.YtegbdcadlmefgaaDoor
open Go.RowKit V
--PURE: (intro _ _; simp [pureL, pureS, pureE]; done)
set_option maxRecDepth 100000
set_option maxHeartbeats 4000000
set_option linter.unusedSimpArgs false
attribute [local irreducible] V.Sat V.DSat
theorem p23 (r : Rel) (hv : validB r = true) (hw : RelW r) : Fun Tryd.prog [] 23 [.ro (.u8 (bytesR r))] (.tup [r.v, .int .i64 0]) := by
  have h := parse_walk (bytesR r)
  rw [(okP_of r hv hw).1, (okP_of r hv hw).2] at h
  exact h
theorem p24 (q : RootL) (hv : rootB q = true) (hw : RootW q) : Fun Tryd.prog [] 24 [.ro (.u8 (bytesQ q))] (.tup [q.v, .int .i64 0]) := by
  have h := parseRoot_walk (bytesQ q)
  rw [(okQ_of q hv hw).1, (okQ_of q hv hw).2] at h
  exact h
theorem p23x (q : RootL) : Fun Tryd.prog [] 23 [.ro (.u8 (bytesQ q))] (.tup [zeroRel.v, .int .i64 260]) := by
  have h := parse_walk (bytesQ q)
  rw [okP_root] at h
  exact h
theorem p24x (r : Rel) : Fun Tryd.prog [] 24 [.ro (.u8 (bytesR r))] (.tup [zeroRoot.v, .int .i64 260]) := by
  have h := parseRoot_walk (bytesR r)
  rw [okQ_rel] at h
  exact h
theorem s25 (r : Rel) : Fun Tryd.prog [] 25 [r.v, r.v] (.bool true) := by
  have h := same_rel r r
  rw [(relEq_iff _ _).2 rfl] at h
  exact h
theorem s26 (q : RootL) : Fun Tryd.prog [] 26 [q.v, q.v] (.bool true) := by
  have h := same_root q q
  rw [(rootEq_iff _ _).2 rfl] at h
  exact h
theorem trips_law (x : RawL) (y : RawQ) : Fun Tryd.prog [] 4 [x.v, y.v] (.bool true) := by
  refine Fun.mkF 7 Tryd.func4 rfl Tryd.ntmps4 rfl rfl fun hf T w0 => ?_
  have g1 := u16_iff hf.1.1
  have g2 := u16_iff hf.2.1.1
  have m1 := made_walk x (by omega)
  have m2 := madeRoot_walk y
  have hv := madeR_valid x
  have hw := madeR_wf x
  have hv2 := madeQ_valid y (by omega)
  have hw2 := madeQ_wf y
  generalize madeR x = r at *
  generalize madeQ y = q at *
  have b1 := bytes_spec r hv
  have c1 := rootBytes_spec q hv2
  have a1 := p23 r hv hw
  have a2 := p24 q hv2 hw2
  have a3 := p23x q
  have a4 := p24x r
  have v1 := valid_spec r
  rw [hv] at v1
  have v2 := validRoot_spec q
  rw [hv2] at v2
  have s1 := s25 r
  have s2 := s26 q
  repeat' (first
      | ((with_reducible apply Sat.run (X := X64)); exact rfl; (first | exact True.intro | (exact phi) | skip))
      | ((with_reducible apply Sat.drawn); kernel_rfl)
      | ((with_reducible apply DSat.run (X := X64)); exact rfl; (first | exact True.intro | (exact phi) | skip))
      | ((with_reducible apply DSat.fin); kernel_rfl)
      | ((with_reducible apply Sat.cond_t); exact rfl)
      | ((with_reducible apply Sat.cond_f); exact rfl)
      | ((with_reducible apply Sat.cond_pt); exact rfl; (try dsimp only [V.EV.sub, V.EV.len]); first | assumption | omega)
      | ((with_reducible apply Sat.cond_pf); exact rfl; (try dsimp only [V.EV.sub, V.EV.len]); first | assumption | omega)
      | ((with_reducible apply Sat.cond_p); exact rfl; all_goals intro h)
      | ((with_reducible apply Sat.cond); exact rfl; all_goals intro h)
      | ((with_reducible apply Sat.gon); exact rfl; first | exact rfl | (decide +kernel))
      | ((with_reducible apply Sat.call0 (sanity_law)); exact rfl; exact rfl; kernel_rfl; exact rfl)
      | ((with_reducible apply DSat.call0 (sanity_law)); exact rfl; exact rfl; kernel_rfl; exact rfl)
      | ((with_reducible apply DSat.callM0 (sanity_law)); exact rfl; exact rfl; (first | exact rfl | assumption | (decide +kernel)); exact rfl; kernel_rfl; exact rfl)
      | ((with_reducible apply Sat.call (m1)); exact rfl; exact rfl; kernel_rfl; (exact cnvX); exact rfl)
      | ((with_reducible apply DSat.call (m1)); exact rfl; exact rfl; kernel_rfl; (exact cnvX); exact rfl)
      | ((with_reducible apply Sat.call (m2)); exact rfl; exact rfl; kernel_rfl; (exact cnvX); exact rfl)
      | ((with_reducible apply DSat.call (m2)); exact rfl; exact rfl; kernel_rfl; (exact cnvX); exact rfl)
      | ((with_reducible apply Sat.call (b1)); exact rfl; exact rfl; kernel_rfl; (exact cnvX); exact rfl)
      | ((with_reducible apply DSat.call (b1)); exact rfl; exact rfl; kernel_rfl; (exact cnvX); exact rfl)
      | ((with_reducible apply Sat.call (c1)); exact rfl; exact rfl; kernel_rfl; (exact cnvX); exact rfl)
      | ((with_reducible apply DSat.call (c1)); exact rfl; exact rfl; kernel_rfl; (exact cnvX); exact rfl)
      | ((with_reducible apply Sat.call (a1)); exact rfl; exact rfl; kernel_rfl; (exact cnvX); exact rfl)
      | ((with_reducible apply DSat.call (a1)); exact rfl; exact rfl; kernel_rfl; (exact cnvX); exact rfl)
      | ((with_reducible apply Sat.call (a2)); exact rfl; exact rfl; kernel_rfl; (exact cnvX); exact rfl)
      | ((with_reducible apply DSat.call (a2)); exact rfl; exact rfl; kernel_rfl; (exact cnvX); exact rfl)
      | ((with_reducible apply Sat.call (a3)); exact rfl; exact rfl; kernel_rfl; (exact cnvX); exact rfl)
      | ((with_reducible apply DSat.call (a3)); exact rfl; exact rfl; kernel_rfl; (exact cnvX); exact rfl)
      | ((with_reducible apply Sat.call (a4)); exact rfl; exact rfl; kernel_rfl; (exact cnvX); exact rfl)
      | ((with_reducible apply DSat.call (a4)); exact rfl; exact rfl; kernel_rfl; (exact cnvX); exact rfl)
      | ((with_reducible apply Sat.callR (v1)); exact rfl; exact rfl; exact rfl; kernel_rfl; (exact cnvX); exact rfl)
      | ((with_reducible apply DSat.callR (v1)); exact rfl; exact rfl; exact rfl; kernel_rfl; (exact cnvX); exact rfl)
      | ((with_reducible apply Sat.callR (v2)); exact rfl; exact rfl; exact rfl; kernel_rfl; (exact cnvX); exact rfl)
      | ((with_reducible apply DSat.callR (v2)); exact rfl; exact rfl; exact rfl; kernel_rfl; (exact cnvX); exact rfl)
      | ((with_reducible apply Sat.callG1 (v2)); exact rfl; exact rfl; exact rfl; exact rfl; kernel_rfl; (intro hG; (exact cnvX)); exact rfl)
      | ((with_reducible apply DSat.callG1 (v2)); exact rfl; exact rfl; exact rfl; exact rfl; kernel_rfl; (intro hG; (exact cnvX)); exact rfl)
      | ((with_reducible apply Sat.callG1 (s1)); exact rfl; exact rfl; exact rfl; exact rfl; kernel_rfl; (intro hG; (exact cnvX)); exact rfl)
      | ((with_reducible apply DSat.callG1 (s1)); exact rfl; exact rfl; exact rfl; exact rfl; kernel_rfl; (intro hG; (exact cnvX)); exact rfl)
      | ((with_reducible apply Sat.callG1 (s2)); exact rfl; exact rfl; exact rfl; exact rfl; kernel_rfl; (intro hG; (exact cnvX)); exact rfl)
      | ((with_reducible apply DSat.callG1 (s2)); exact rfl; exact rfl; exact rfl; exact rfl; kernel_rfl; (intro hG; (exact cnvX)); exact rfl)
      | ((with_reducible apply Sat.callR (s1)); exact rfl; exact rfl; exact rfl; kernel_rfl; (exact cnvX); exact rfl)
      | ((with_reducible apply DSat.callR (s1)); exact rfl; exact rfl; exact rfl; kernel_rfl; (exact cnvX); exact rfl)
      | ((with_reducible apply Sat.callR (s2)); exact rfl; exact rfl; exact rfl; kernel_rfl; (exact cnvX); exact rfl)
      | ((with_reducible apply DSat.callR (s2)); exact rfl; exact rfl; exact rfl; kernel_rfl; (exact cnvX); exact rfl) | fail)
  all_goals (refine Sat.fin (Sat.end1 rfl rfl rfl True.intro (.refl _ purX) (by first | exact .inl rfl | exact .inr rfl) (fun _ h => h)) ?_; (first | exact rfl | exact congrArg SV.bool (by decide +kernel)))
end Go.Proofs.YtegbdcadlmefgaaDoor
end
section
namespace Go.Proofs.YtegbdcadlmefgaaDoor
open Go.RowKit Go.ChangeShapes Go.WideShapes V
set_option maxRecDepth 100000
theorem own : ownKnob Tryd.prog.godebug = none := by kernel_rfl
theorem laidOut : laidOutB Tryd.prog = true := by kernel_rfl
def errs_laid : List (String × DataW Unit) := [("bytes.ErrTooLarge", Rows.laid_bytes_ErrTooLarge)]
theorem errs_glob (W : World) (_ : laidMetH Tryd.prog errs_laid W) : GOk [] (fun _ => False) W := glob_nil
theorem door_met (os : Os) (args : Array Value) : laidMetH Tryd.prog errs_laid ((World.doorLaid Tryd.prog 300 os).forCall (fun _ _ => 0) ⟨#[], args, []⟩).memory :=
  laidMetH_of_parts3 (fuel := 8) (laidMet_of_run' 8 (by kernel_rfl) (by kernel_rfl)) (by kernel_rfl) (by kernel_rfl)
end Go.Proofs.YtegbdcadlmefgaaDoor
end
section
namespace Go.Proofs.YtegbdcadlmefgaaDoor
open Go.RowKit V
set_option maxRecDepth 100000
variable {H : Type}
theorem map_nthD {α : Type} (f : DataW H → α) : ∀ (l : List (DataW H)) (i : Nat), (l.map f).getD i (f .nil) = f (nthD l i)
  | [], i => rfl
  | x :: r, 0 => rfl
  | x :: r, i + 1 => by
    simp only [List.map_cons, List.getD_cons_succ, nthD]
    exact map_nthD f r i
def partD (d : DataW H) : PartL := ⟨sOf (nthD (ptsD d) 0), (ptsD (nthD (ptsD d) 1)).map u8Of⟩
def keyD (d : DataW H) : List UInt8 := (ptsD d).map u8Of
def roleD (d : DataW H) : RoleL := ⟨sOf (nthD (ptsD d) 0), (eOf (nthD (ptsD d) 1)).map iOf, iOf (nthD (ptsD d) 2)⟩
def relD (d : DataW H) : Rel := ⟨iOf (nthD (ptsD d) 0), iOf (nthD (ptsD d) 1), iOf (nthD (ptsD d) 2), iOf (nthD (ptsD d) 3), (ptsD (nthD (ptsD d) 4)).map u8Of, iOf (nthD (ptsD d) 5), (ptsD (nthD (ptsD d) 6)).map u8Of, (eOf (nthD (ptsD d) 7)).map iOf, (eOf (nthD (ptsD d) 8)).map partD⟩
def rootD (d : DataW H) : RootL := ⟨iOf (nthD (ptsD d) 0), iOf (nthD (ptsD d) 1), (eOf (nthD (ptsD d) 2)).map keyD, (eOf (nthD (ptsD d) 3)).map roleD⟩
theorem partsD_eq (l : List (DataW H)) : partsE (l.map partD) = .g l.length 33 fun i => [.str (sOf (nthD (ptsD (nthD l i)) 0)), .arr 32 (.u8 ((ptsD (nthD (ptsD (nthD l i)) 1)).map u8Of))] := by
  show EV.g _ _ _ = _
  rw [List.length_map]
  congr 1
  funext i
  have h : (l.map partD).getD i part0 = partD (nthD l i) := map_nthD partD l i
  rw [h]
  rfl
theorem keysD_eq (l : List (DataW H)) : keysE (l.map keyD) = .g l.length 32 fun i => [.arr 32 (.u8 ((ptsD (nthD l i)).map u8Of))] := by
  show EV.g _ _ _ = _
  rw [List.length_map]
  congr 1
  funext i
  have h : (l.map keyD).getD i [] = keyD (nthD l i) := map_nthD keyD l i
  rw [h]
  rfl
theorem rolesD_eq (l : List (DataW H)) : rolesE (l.map roleD) = .g l.length 3 fun i => [.str (sOf (nthD (ptsD (nthD l i)) 0)), .ro (.ints .i64 ((eOf (nthD (ptsD (nthD l i)) 1)).map iOf)), .int .i64 (iOf (nthD (ptsD (nthD l i)) 2))] := by
  show EV.g _ _ _ = _
  rw [List.length_map]
  congr 1
  funext i
  have h : (l.map roleD).getD i role0 = roleD (nthD l i) := map_nthD roleD l i
  rw [h]
  rfl
theorem relD_v (d : DataW H) : (relD d).v = .agg [.int .i64 (iOf (nthD (ptsD d) 0)), .int .i64 (iOf (nthD (ptsD d) 1)), .int .i64 (iOf (nthD (ptsD d) 2)), .int .i64 (iOf (nthD (ptsD d) 3)), .arr 32 (.u8 ((ptsD (nthD (ptsD d) 4)).map u8Of)), .int .i64 (iOf (nthD (ptsD d) 5)), .arr 32 (.u8 ((ptsD (nthD (ptsD d) 6)).map u8Of)), .ro (.ints .i64 ((eOf (nthD (ptsD d) 7)).map iOf)),
    .ro (.g (eOf (nthD (ptsD d) 8)).length 33 fun i => [.str (sOf (nthD (ptsD (nthD (eOf (nthD (ptsD d) 8)) i)) 0)), .arr 32 (.u8 ((ptsD (nthD (ptsD (nthD (eOf (nthD (ptsD d) 8)) i)) 1)).map u8Of))])] := by
  rw [← partsD_eq]
  rfl
theorem rootD_v (d : DataW H) : (rootD d).v = .agg [.int .i64 (iOf (nthD (ptsD d) 0)), .int .i64 (iOf (nthD (ptsD d) 1)), .ro (.g (eOf (nthD (ptsD d) 2)).length 32 fun i => [.arr 32 (.u8 ((ptsD (nthD (eOf (nthD (ptsD d) 2)) i)).map u8Of))]),
    .ro (.g (eOf (nthD (ptsD d) 3)).length 3 fun i => [.str (sOf (nthD (ptsD (nthD (eOf (nthD (ptsD d) 3)) i)) 0)), .ro (.ints .i64 ((eOf (nthD (ptsD (nthD (eOf (nthD (ptsD d) 3)) i)) 1)).map iOf)), .int .i64 (iOf (nthD (ptsD (nthD (eOf (nthD (ptsD d) 3)) i)) 2))])] := by
  rw [← keysD_eq, ← rolesD_eq]
  rfl
end Go.Proofs.YtegbdcadlmefgaaDoor
end
section
namespace Go.Proofs.YtegbdcadlmefgaaDoor
open Go.RowKit V
--PURE: (intro _ _; simp [pureL, pureS, pureE]; done)
set_option maxRecDepth 100000
set_option maxHeartbeats 4000000
set_option linter.unusedSimpArgs false
attribute [local irreducible] V.Sat V.DSat
def RawL.l (x : RawL) : List SV := [.int .u16 (x.version : Int), .int .u16 (x.floor : Int), .int .u32 (x.expiry : Int), .int .u32 (x.size : Int), .int .u8 (x.s0.toNat : Int), .int .u8 (x.s1.toNat : Int), .ro (.u8 x.gone), .ro (.u8 x.parts)]
def RawQ.l (x : RawQ) : List SV := [.int .u16 (x.gen : Int), .int .u32 (x.expiry : Int), .ro (.u8 x.keys), .ro (rawRoles x.roles)]
theorem same_bytes (r q : Rel) (hv : validB r = true) (hw : RelW r) (hv' : validB q = true) (hw' : RelW q) : Fun Tryd.prog [] 14 [.ro (.u8 (bytesR r)), .ro (.u8 (bytesR q))] (.bool (relEq r q)) := by
  have h := same_ref (bytesR r) (bytesR q)
  rw [show decide (bytesR r = bytesR q) = relEq r q from ?_] at h
  · exact h
  · cases he : relEq r q with
    | true => rw [(relEq_iff r q).1 he]; exact decide_eq_true rfl
    | false =>
      refine decide_eq_false fun hb => ?_
      rw [(relEq_iff r q).2 (bytesR_inj hv hw hv' hw' hb)] at he
      cases he
theorem same_bytesQ (r q : RootL) (hv : rootB r = true) (hw : RootW r) (hv' : rootB q = true) (hw' : RootW q) : Fun Tryd.prog [] 14 [.ro (.u8 (bytesQ r)), .ro (.u8 (bytesQ q))] (.bool (rootEq r q)) := by
  have h := same_ref (bytesQ r) (bytesQ q)
  rw [show decide (bytesQ r = bytesQ q) = rootEq r q from ?_] at h
  · exact h
  · cases he : rootEq r q with
    | true => rw [(rootEq_iff r q).1 he]; exact decide_eq_true rfl
    | false =>
      refine decide_eq_false fun hb => ?_
      rw [(rootEq_iff r q).2 (bytesQ_inj hv hw hv' hw' hb)] at he
      cases he
theorem differs_law (x1 x2 : RawL) (y1 y2 : RawQ) : Fun Tryd.prog [] 7 [.agg (x1.l ++ x2.l), .agg (y1.l ++ y2.l)] (.bool true) := by
  unfold RawL.l RawQ.l
  dsimp only [List.cons_append, List.nil_append]
  refine Fun.mkF 7 Tryd.func7 rfl Tryd.ntmps7 rfl rfl fun hf T w0 => ?_
  have f1 := u16_iff hf.1.1
  have f2 := u16_iff hf.1.2.2.2.2.2.2.2.2.1
  have f3 := u16_iff hf.2.1.1
  have f4 := u16_iff hf.2.1.2.2.2.2.1
  have m1 := made_walk x1 (by omega)
  have m2 := made_walk x2 (by omega)
  have m3 := madeRoot_walk y1
  have m4 := madeRoot_walk y2
  have v1 := madeR_valid x1
  have w1 := madeR_wf x1
  have v2 := madeR_valid x2
  have w2 := madeR_wf x2
  have v3 := madeQ_valid y1 (by omega)
  have w3 := madeQ_wf y1
  have v4 := madeQ_valid y2 (by omega)
  have w4 := madeQ_wf y2
  generalize madeR x1 = r1 at *
  generalize madeR x2 = r2 at *
  generalize madeQ y1 = q1 at *
  generalize madeQ y2 = q2 at *
  have b1 := bytes_spec r1 v1
  have b2 := bytes_spec r2 v2
  have b3 := rootBytes_spec q1 v3
  have b4 := rootBytes_spec q2 v4
  have e1 := same_bytes r1 r2 v1 w1 v2 w2
  have e2 := same_bytesQ q1 q2 v3 w3 v4 w4
  have s1 := same_rel r1 r2
  have s2 := same_root q1 q2
  generalize relEq r1 r2 = z1 at *
  generalize rootEq q1 q2 = z2 at *
  rcases z1 with _ | _ <;> rcases z2 with _ | _
  · repeat' (first
        | ((with_reducible apply Sat.run (X := X64)); exact rfl; (first | exact True.intro | (exact phi) | skip))
        | ((with_reducible apply Sat.drawn); kernel_rfl)
        | ((with_reducible apply DSat.run (X := X64)); exact rfl; (first | exact True.intro | (exact phi) | skip))
        | ((with_reducible apply DSat.fin); kernel_rfl)
        | ((with_reducible apply Sat.cond_t); exact rfl)
        | ((with_reducible apply Sat.cond_f); exact rfl)
        | ((with_reducible apply Sat.cond_pt); exact rfl; (try dsimp only [V.EV.sub, V.EV.len]); first | assumption | omega)
        | ((with_reducible apply Sat.cond_pf); exact rfl; (try dsimp only [V.EV.sub, V.EV.len]); first | assumption | omega)
        | ((with_reducible apply Sat.cond_p); exact rfl; all_goals intro h)
        | ((with_reducible apply Sat.cond); exact rfl; all_goals intro h)
        | ((with_reducible apply Sat.gon); exact rfl; first | exact rfl | (decide +kernel))
        | ((with_reducible apply Sat.call0 (sanity_law)); exact rfl; exact rfl; kernel_rfl; exact rfl)
        | ((with_reducible apply DSat.call0 (sanity_law)); exact rfl; exact rfl; kernel_rfl; exact rfl)
        | ((with_reducible apply DSat.callM0 (sanity_law)); exact rfl; exact rfl; (first | exact rfl | assumption | (decide +kernel)); exact rfl; kernel_rfl; exact rfl)
        | ((with_reducible apply Sat.call (m1)); exact rfl; exact rfl; kernel_rfl; (exact cnvX); exact rfl)
        | ((with_reducible apply DSat.call (m1)); exact rfl; exact rfl; kernel_rfl; (exact cnvX); exact rfl)
        | ((with_reducible apply Sat.call (m2)); exact rfl; exact rfl; kernel_rfl; (exact cnvX); exact rfl)
        | ((with_reducible apply DSat.call (m2)); exact rfl; exact rfl; kernel_rfl; (exact cnvX); exact rfl)
        | ((with_reducible apply Sat.call (m3)); exact rfl; exact rfl; kernel_rfl; (exact cnvX); exact rfl)
        | ((with_reducible apply DSat.call (m3)); exact rfl; exact rfl; kernel_rfl; (exact cnvX); exact rfl)
        | ((with_reducible apply Sat.call (m4)); exact rfl; exact rfl; kernel_rfl; (exact cnvX); exact rfl)
        | ((with_reducible apply DSat.call (m4)); exact rfl; exact rfl; kernel_rfl; (exact cnvX); exact rfl)
        | ((with_reducible apply Sat.call (b1)); exact rfl; exact rfl; kernel_rfl; (exact cnvX); exact rfl)
        | ((with_reducible apply DSat.call (b1)); exact rfl; exact rfl; kernel_rfl; (exact cnvX); exact rfl)
        | ((with_reducible apply Sat.call (b2)); exact rfl; exact rfl; kernel_rfl; (exact cnvX); exact rfl)
        | ((with_reducible apply DSat.call (b2)); exact rfl; exact rfl; kernel_rfl; (exact cnvX); exact rfl)
        | ((with_reducible apply Sat.call (b3)); exact rfl; exact rfl; kernel_rfl; (exact cnvX); exact rfl)
        | ((with_reducible apply DSat.call (b3)); exact rfl; exact rfl; kernel_rfl; (exact cnvX); exact rfl)
        | ((with_reducible apply Sat.call (b4)); exact rfl; exact rfl; kernel_rfl; (exact cnvX); exact rfl)
        | ((with_reducible apply DSat.call (b4)); exact rfl; exact rfl; kernel_rfl; (exact cnvX); exact rfl)
        | ((with_reducible apply Sat.callR (e1)); exact rfl; exact rfl; exact rfl; kernel_rfl; (exact cnvX); exact rfl)
        | ((with_reducible apply DSat.callR (e1)); exact rfl; exact rfl; exact rfl; kernel_rfl; (exact cnvX); exact rfl)
        | ((with_reducible apply Sat.callR (e2)); exact rfl; exact rfl; exact rfl; kernel_rfl; (exact cnvX); exact rfl)
        | ((with_reducible apply DSat.callR (e2)); exact rfl; exact rfl; exact rfl; kernel_rfl; (exact cnvX); exact rfl)
        | ((with_reducible apply Sat.callR (s1)); exact rfl; exact rfl; exact rfl; kernel_rfl; (exact cnvX); exact rfl)
        | ((with_reducible apply DSat.callR (s1)); exact rfl; exact rfl; exact rfl; kernel_rfl; (exact cnvX); exact rfl)
        | ((with_reducible apply Sat.callR (s2)); exact rfl; exact rfl; exact rfl; kernel_rfl; (exact cnvX); exact rfl)
        | ((with_reducible apply DSat.callR (s2)); exact rfl; exact rfl; exact rfl; kernel_rfl; (exact cnvX); exact rfl)
        | ((with_reducible apply DSat.callM (b3)); exact rfl; exact rfl; (first | exact rfl | assumption | (decide +kernel)); exact rfl; kernel_rfl; (exact cnvX); exact rfl)
        | ((with_reducible apply DSat.callM (b4)); exact rfl; exact rfl; (first | exact rfl | assumption | (decide +kernel)); exact rfl; kernel_rfl; (exact cnvX); exact rfl)
        | ((with_reducible apply Sat.callG1 (e2)); exact rfl; exact rfl; exact rfl; exact rfl; kernel_rfl; (intro hG; (exact cnvX)); exact rfl)
        | ((with_reducible apply DSat.callG1 (e2)); exact rfl; exact rfl; exact rfl; exact rfl; kernel_rfl; (intro hG; (exact cnvX)); exact rfl)
        | ((with_reducible apply Sat.callG1 (s2)); exact rfl; exact rfl; exact rfl; exact rfl; kernel_rfl; (intro hG; (exact cnvX)); exact rfl)
        | ((with_reducible apply DSat.callG1 (s2)); exact rfl; exact rfl; exact rfl; exact rfl; kernel_rfl; (intro hG; (exact cnvX)); exact rfl) | fail)
    all_goals (refine Sat.fin (Sat.end1 rfl rfl rfl True.intro (.refl _ purX) (by first | exact .inl rfl | exact .inr rfl) (fun _ h => h)) ?_; (first | exact rfl | exact congrArg SV.bool (by decide +kernel)))
  · repeat' (first
        | ((with_reducible apply Sat.run (X := X64)); exact rfl; (first | exact True.intro | (exact phi) | skip))
        | ((with_reducible apply Sat.drawn); kernel_rfl)
        | ((with_reducible apply DSat.run (X := X64)); exact rfl; (first | exact True.intro | (exact phi) | skip))
        | ((with_reducible apply DSat.fin); kernel_rfl)
        | ((with_reducible apply Sat.cond_t); exact rfl)
        | ((with_reducible apply Sat.cond_f); exact rfl)
        | ((with_reducible apply Sat.cond_pt); exact rfl; (try dsimp only [V.EV.sub, V.EV.len]); first | assumption | omega)
        | ((with_reducible apply Sat.cond_pf); exact rfl; (try dsimp only [V.EV.sub, V.EV.len]); first | assumption | omega)
        | ((with_reducible apply Sat.cond_p); exact rfl; all_goals intro h)
        | ((with_reducible apply Sat.cond); exact rfl; all_goals intro h)
        | ((with_reducible apply Sat.gon); exact rfl; first | exact rfl | (decide +kernel))
        | ((with_reducible apply Sat.call0 (sanity_law)); exact rfl; exact rfl; kernel_rfl; exact rfl)
        | ((with_reducible apply DSat.call0 (sanity_law)); exact rfl; exact rfl; kernel_rfl; exact rfl)
        | ((with_reducible apply DSat.callM0 (sanity_law)); exact rfl; exact rfl; (first | exact rfl | assumption | (decide +kernel)); exact rfl; kernel_rfl; exact rfl)
        | ((with_reducible apply Sat.call (m1)); exact rfl; exact rfl; kernel_rfl; (exact cnvX); exact rfl)
        | ((with_reducible apply DSat.call (m1)); exact rfl; exact rfl; kernel_rfl; (exact cnvX); exact rfl)
        | ((with_reducible apply Sat.call (m2)); exact rfl; exact rfl; kernel_rfl; (exact cnvX); exact rfl)
        | ((with_reducible apply DSat.call (m2)); exact rfl; exact rfl; kernel_rfl; (exact cnvX); exact rfl)
        | ((with_reducible apply Sat.call (m3)); exact rfl; exact rfl; kernel_rfl; (exact cnvX); exact rfl)
        | ((with_reducible apply DSat.call (m3)); exact rfl; exact rfl; kernel_rfl; (exact cnvX); exact rfl)
        | ((with_reducible apply Sat.call (m4)); exact rfl; exact rfl; kernel_rfl; (exact cnvX); exact rfl)
        | ((with_reducible apply DSat.call (m4)); exact rfl; exact rfl; kernel_rfl; (exact cnvX); exact rfl)
        | ((with_reducible apply Sat.call (b1)); exact rfl; exact rfl; kernel_rfl; (exact cnvX); exact rfl)
        | ((with_reducible apply DSat.call (b1)); exact rfl; exact rfl; kernel_rfl; (exact cnvX); exact rfl)
        | ((with_reducible apply Sat.call (b2)); exact rfl; exact rfl; kernel_rfl; (exact cnvX); exact rfl)
        | ((with_reducible apply DSat.call (b2)); exact rfl; exact rfl; kernel_rfl; (exact cnvX); exact rfl)
        | ((with_reducible apply Sat.call (b3)); exact rfl; exact rfl; kernel_rfl; (exact cnvX); exact rfl)
        | ((with_reducible apply DSat.call (b3)); exact rfl; exact rfl; kernel_rfl; (exact cnvX); exact rfl)
        | ((with_reducible apply Sat.call (b4)); exact rfl; exact rfl; kernel_rfl; (exact cnvX); exact rfl)
        | ((with_reducible apply DSat.call (b4)); exact rfl; exact rfl; kernel_rfl; (exact cnvX); exact rfl)
        | ((with_reducible apply Sat.callR (e1)); exact rfl; exact rfl; exact rfl; kernel_rfl; (exact cnvX); exact rfl)
        | ((with_reducible apply DSat.callR (e1)); exact rfl; exact rfl; exact rfl; kernel_rfl; (exact cnvX); exact rfl)
        | ((with_reducible apply Sat.callR (e2)); exact rfl; exact rfl; exact rfl; kernel_rfl; (exact cnvX); exact rfl)
        | ((with_reducible apply DSat.callR (e2)); exact rfl; exact rfl; exact rfl; kernel_rfl; (exact cnvX); exact rfl)
        | ((with_reducible apply Sat.callR (s1)); exact rfl; exact rfl; exact rfl; kernel_rfl; (exact cnvX); exact rfl)
        | ((with_reducible apply DSat.callR (s1)); exact rfl; exact rfl; exact rfl; kernel_rfl; (exact cnvX); exact rfl)
        | ((with_reducible apply Sat.callR (s2)); exact rfl; exact rfl; exact rfl; kernel_rfl; (exact cnvX); exact rfl)
        | ((with_reducible apply DSat.callR (s2)); exact rfl; exact rfl; exact rfl; kernel_rfl; (exact cnvX); exact rfl)
        | ((with_reducible apply DSat.callM (b3)); exact rfl; exact rfl; (first | exact rfl | assumption | (decide +kernel)); exact rfl; kernel_rfl; (exact cnvX); exact rfl)
        | ((with_reducible apply DSat.callM (b4)); exact rfl; exact rfl; (first | exact rfl | assumption | (decide +kernel)); exact rfl; kernel_rfl; (exact cnvX); exact rfl)
        | ((with_reducible apply Sat.callG1 (e2)); exact rfl; exact rfl; exact rfl; exact rfl; kernel_rfl; (intro hG; (exact cnvX)); exact rfl)
        | ((with_reducible apply DSat.callG1 (e2)); exact rfl; exact rfl; exact rfl; exact rfl; kernel_rfl; (intro hG; (exact cnvX)); exact rfl)
        | ((with_reducible apply Sat.callG1 (s2)); exact rfl; exact rfl; exact rfl; exact rfl; kernel_rfl; (intro hG; (exact cnvX)); exact rfl)
        | ((with_reducible apply DSat.callG1 (s2)); exact rfl; exact rfl; exact rfl; exact rfl; kernel_rfl; (intro hG; (exact cnvX)); exact rfl) | fail)
    all_goals (refine Sat.fin (Sat.end1 rfl rfl rfl True.intro (.refl _ purX) (by first | exact .inl rfl | exact .inr rfl) (fun _ h => h)) ?_; (first | exact rfl | exact congrArg SV.bool (by decide +kernel)))
  · repeat' (first
        | ((with_reducible apply Sat.run (X := X64)); exact rfl; (first | exact True.intro | (exact phi) | skip))
        | ((with_reducible apply Sat.drawn); kernel_rfl)
        | ((with_reducible apply DSat.run (X := X64)); exact rfl; (first | exact True.intro | (exact phi) | skip))
        | ((with_reducible apply DSat.fin); kernel_rfl)
        | ((with_reducible apply Sat.cond_t); exact rfl)
        | ((with_reducible apply Sat.cond_f); exact rfl)
        | ((with_reducible apply Sat.cond_pt); exact rfl; (try dsimp only [V.EV.sub, V.EV.len]); first | assumption | omega)
        | ((with_reducible apply Sat.cond_pf); exact rfl; (try dsimp only [V.EV.sub, V.EV.len]); first | assumption | omega)
        | ((with_reducible apply Sat.cond_p); exact rfl; all_goals intro h)
        | ((with_reducible apply Sat.cond); exact rfl; all_goals intro h)
        | ((with_reducible apply Sat.gon); exact rfl; first | exact rfl | (decide +kernel))
        | ((with_reducible apply Sat.call0 (sanity_law)); exact rfl; exact rfl; kernel_rfl; exact rfl)
        | ((with_reducible apply DSat.call0 (sanity_law)); exact rfl; exact rfl; kernel_rfl; exact rfl)
        | ((with_reducible apply DSat.callM0 (sanity_law)); exact rfl; exact rfl; (first | exact rfl | assumption | (decide +kernel)); exact rfl; kernel_rfl; exact rfl)
        | ((with_reducible apply Sat.call (m1)); exact rfl; exact rfl; kernel_rfl; (exact cnvX); exact rfl)
        | ((with_reducible apply DSat.call (m1)); exact rfl; exact rfl; kernel_rfl; (exact cnvX); exact rfl)
        | ((with_reducible apply Sat.call (m2)); exact rfl; exact rfl; kernel_rfl; (exact cnvX); exact rfl)
        | ((with_reducible apply DSat.call (m2)); exact rfl; exact rfl; kernel_rfl; (exact cnvX); exact rfl)
        | ((with_reducible apply Sat.call (m3)); exact rfl; exact rfl; kernel_rfl; (exact cnvX); exact rfl)
        | ((with_reducible apply DSat.call (m3)); exact rfl; exact rfl; kernel_rfl; (exact cnvX); exact rfl)
        | ((with_reducible apply Sat.call (m4)); exact rfl; exact rfl; kernel_rfl; (exact cnvX); exact rfl)
        | ((with_reducible apply DSat.call (m4)); exact rfl; exact rfl; kernel_rfl; (exact cnvX); exact rfl)
        | ((with_reducible apply Sat.call (b1)); exact rfl; exact rfl; kernel_rfl; (exact cnvX); exact rfl)
        | ((with_reducible apply DSat.call (b1)); exact rfl; exact rfl; kernel_rfl; (exact cnvX); exact rfl)
        | ((with_reducible apply Sat.call (b2)); exact rfl; exact rfl; kernel_rfl; (exact cnvX); exact rfl)
        | ((with_reducible apply DSat.call (b2)); exact rfl; exact rfl; kernel_rfl; (exact cnvX); exact rfl)
        | ((with_reducible apply Sat.call (b3)); exact rfl; exact rfl; kernel_rfl; (exact cnvX); exact rfl)
        | ((with_reducible apply DSat.call (b3)); exact rfl; exact rfl; kernel_rfl; (exact cnvX); exact rfl)
        | ((with_reducible apply Sat.call (b4)); exact rfl; exact rfl; kernel_rfl; (exact cnvX); exact rfl)
        | ((with_reducible apply DSat.call (b4)); exact rfl; exact rfl; kernel_rfl; (exact cnvX); exact rfl)
        | ((with_reducible apply Sat.callR (e1)); exact rfl; exact rfl; exact rfl; kernel_rfl; (exact cnvX); exact rfl)
        | ((with_reducible apply DSat.callR (e1)); exact rfl; exact rfl; exact rfl; kernel_rfl; (exact cnvX); exact rfl)
        | ((with_reducible apply Sat.callR (e2)); exact rfl; exact rfl; exact rfl; kernel_rfl; (exact cnvX); exact rfl)
        | ((with_reducible apply DSat.callR (e2)); exact rfl; exact rfl; exact rfl; kernel_rfl; (exact cnvX); exact rfl)
        | ((with_reducible apply Sat.callR (s1)); exact rfl; exact rfl; exact rfl; kernel_rfl; (exact cnvX); exact rfl)
        | ((with_reducible apply DSat.callR (s1)); exact rfl; exact rfl; exact rfl; kernel_rfl; (exact cnvX); exact rfl)
        | ((with_reducible apply Sat.callR (s2)); exact rfl; exact rfl; exact rfl; kernel_rfl; (exact cnvX); exact rfl)
        | ((with_reducible apply DSat.callR (s2)); exact rfl; exact rfl; exact rfl; kernel_rfl; (exact cnvX); exact rfl)
        | ((with_reducible apply DSat.callM (b3)); exact rfl; exact rfl; (first | exact rfl | assumption | (decide +kernel)); exact rfl; kernel_rfl; (exact cnvX); exact rfl)
        | ((with_reducible apply DSat.callM (b4)); exact rfl; exact rfl; (first | exact rfl | assumption | (decide +kernel)); exact rfl; kernel_rfl; (exact cnvX); exact rfl)
        | ((with_reducible apply Sat.callG1 (e2)); exact rfl; exact rfl; exact rfl; exact rfl; kernel_rfl; (intro hG; (exact cnvX)); exact rfl)
        | ((with_reducible apply DSat.callG1 (e2)); exact rfl; exact rfl; exact rfl; exact rfl; kernel_rfl; (intro hG; (exact cnvX)); exact rfl)
        | ((with_reducible apply Sat.callG1 (s2)); exact rfl; exact rfl; exact rfl; exact rfl; kernel_rfl; (intro hG; (exact cnvX)); exact rfl)
        | ((with_reducible apply DSat.callG1 (s2)); exact rfl; exact rfl; exact rfl; exact rfl; kernel_rfl; (intro hG; (exact cnvX)); exact rfl) | fail)
    all_goals (refine Sat.fin (Sat.end1 rfl rfl rfl True.intro (.refl _ purX) (by first | exact .inl rfl | exact .inr rfl) (fun _ h => h)) ?_; (first | exact rfl | exact congrArg SV.bool (by decide +kernel)))
  · repeat' (first
        | ((with_reducible apply Sat.run (X := X64)); exact rfl; (first | exact True.intro | (exact phi) | skip))
        | ((with_reducible apply Sat.drawn); kernel_rfl)
        | ((with_reducible apply DSat.run (X := X64)); exact rfl; (first | exact True.intro | (exact phi) | skip))
        | ((with_reducible apply DSat.fin); kernel_rfl)
        | ((with_reducible apply Sat.cond_t); exact rfl)
        | ((with_reducible apply Sat.cond_f); exact rfl)
        | ((with_reducible apply Sat.cond_pt); exact rfl; (try dsimp only [V.EV.sub, V.EV.len]); first | assumption | omega)
        | ((with_reducible apply Sat.cond_pf); exact rfl; (try dsimp only [V.EV.sub, V.EV.len]); first | assumption | omega)
        | ((with_reducible apply Sat.cond_p); exact rfl; all_goals intro h)
        | ((with_reducible apply Sat.cond); exact rfl; all_goals intro h)
        | ((with_reducible apply Sat.gon); exact rfl; first | exact rfl | (decide +kernel))
        | ((with_reducible apply Sat.call0 (sanity_law)); exact rfl; exact rfl; kernel_rfl; exact rfl)
        | ((with_reducible apply DSat.call0 (sanity_law)); exact rfl; exact rfl; kernel_rfl; exact rfl)
        | ((with_reducible apply DSat.callM0 (sanity_law)); exact rfl; exact rfl; (first | exact rfl | assumption | (decide +kernel)); exact rfl; kernel_rfl; exact rfl)
        | ((with_reducible apply Sat.call (m1)); exact rfl; exact rfl; kernel_rfl; (exact cnvX); exact rfl)
        | ((with_reducible apply DSat.call (m1)); exact rfl; exact rfl; kernel_rfl; (exact cnvX); exact rfl)
        | ((with_reducible apply Sat.call (m2)); exact rfl; exact rfl; kernel_rfl; (exact cnvX); exact rfl)
        | ((with_reducible apply DSat.call (m2)); exact rfl; exact rfl; kernel_rfl; (exact cnvX); exact rfl)
        | ((with_reducible apply Sat.call (m3)); exact rfl; exact rfl; kernel_rfl; (exact cnvX); exact rfl)
        | ((with_reducible apply DSat.call (m3)); exact rfl; exact rfl; kernel_rfl; (exact cnvX); exact rfl)
        | ((with_reducible apply Sat.call (m4)); exact rfl; exact rfl; kernel_rfl; (exact cnvX); exact rfl)
        | ((with_reducible apply DSat.call (m4)); exact rfl; exact rfl; kernel_rfl; (exact cnvX); exact rfl)
        | ((with_reducible apply Sat.call (b1)); exact rfl; exact rfl; kernel_rfl; (exact cnvX); exact rfl)
        | ((with_reducible apply DSat.call (b1)); exact rfl; exact rfl; kernel_rfl; (exact cnvX); exact rfl)
        | ((with_reducible apply Sat.call (b2)); exact rfl; exact rfl; kernel_rfl; (exact cnvX); exact rfl)
        | ((with_reducible apply DSat.call (b2)); exact rfl; exact rfl; kernel_rfl; (exact cnvX); exact rfl)
        | ((with_reducible apply Sat.call (b3)); exact rfl; exact rfl; kernel_rfl; (exact cnvX); exact rfl)
        | ((with_reducible apply DSat.call (b3)); exact rfl; exact rfl; kernel_rfl; (exact cnvX); exact rfl)
        | ((with_reducible apply Sat.call (b4)); exact rfl; exact rfl; kernel_rfl; (exact cnvX); exact rfl)
        | ((with_reducible apply DSat.call (b4)); exact rfl; exact rfl; kernel_rfl; (exact cnvX); exact rfl)
        | ((with_reducible apply Sat.callR (e1)); exact rfl; exact rfl; exact rfl; kernel_rfl; (exact cnvX); exact rfl)
        | ((with_reducible apply DSat.callR (e1)); exact rfl; exact rfl; exact rfl; kernel_rfl; (exact cnvX); exact rfl)
        | ((with_reducible apply Sat.callR (e2)); exact rfl; exact rfl; exact rfl; kernel_rfl; (exact cnvX); exact rfl)
        | ((with_reducible apply DSat.callR (e2)); exact rfl; exact rfl; exact rfl; kernel_rfl; (exact cnvX); exact rfl)
        | ((with_reducible apply Sat.callR (s1)); exact rfl; exact rfl; exact rfl; kernel_rfl; (exact cnvX); exact rfl)
        | ((with_reducible apply DSat.callR (s1)); exact rfl; exact rfl; exact rfl; kernel_rfl; (exact cnvX); exact rfl)
        | ((with_reducible apply Sat.callR (s2)); exact rfl; exact rfl; exact rfl; kernel_rfl; (exact cnvX); exact rfl)
        | ((with_reducible apply DSat.callR (s2)); exact rfl; exact rfl; exact rfl; kernel_rfl; (exact cnvX); exact rfl)
        | ((with_reducible apply DSat.callM (b3)); exact rfl; exact rfl; (first | exact rfl | assumption | (decide +kernel)); exact rfl; kernel_rfl; (exact cnvX); exact rfl)
        | ((with_reducible apply DSat.callM (b4)); exact rfl; exact rfl; (first | exact rfl | assumption | (decide +kernel)); exact rfl; kernel_rfl; (exact cnvX); exact rfl)
        | ((with_reducible apply Sat.callG1 (e2)); exact rfl; exact rfl; exact rfl; exact rfl; kernel_rfl; (intro hG; (exact cnvX)); exact rfl)
        | ((with_reducible apply DSat.callG1 (e2)); exact rfl; exact rfl; exact rfl; exact rfl; kernel_rfl; (intro hG; (exact cnvX)); exact rfl)
        | ((with_reducible apply Sat.callG1 (s2)); exact rfl; exact rfl; exact rfl; exact rfl; kernel_rfl; (intro hG; (exact cnvX)); exact rfl)
        | ((with_reducible apply DSat.callG1 (s2)); exact rfl; exact rfl; exact rfl; exact rfl; kernel_rfl; (intro hG; (exact cnvX)); exact rfl) | fail)
    all_goals (refine Sat.fin (Sat.end1 rfl rfl rfl True.intro (.refl _ purX) (by first | exact .inl rfl | exact .inr rfl) (fun _ h => h)) ?_; (first | exact rfl | exact congrArg SV.bool (by decide +kernel)))
end Go.Proofs.YtegbdcadlmefgaaDoor
end
section
namespace Go.Proofs.YtegbdcadlmefgaaDoor
open Go.RowKit V
set_option maxRecDepth 100000
section
variable {H : Type}
@[reducible] def rawSV (d : DataW H) : List SV := [.int .u16 (iOf (nthD (ptsD d) 0)), .int .u16 (iOf (nthD (ptsD d) 1)), .int .u32 (iOf (nthD (ptsD d) 2)), .int .u32 (iOf (nthD (ptsD d) 3)), .int .u8 (iOf (nthD (ptsD (nthD (ptsD d) 4)) 0)), .int .u8 (iOf (nthD (ptsD (nthD (ptsD d) 4)) 1)), .ro (.u8 ((eOf (nthD (ptsD d) 5)).map u8Of)), .ro (.u8 ((eOf (nthD (ptsD d) 6)).map u8Of))]
def rawD (d : DataW H) : RawL := ⟨(iOf (nthD (ptsD d) 0)).toNat, (iOf (nthD (ptsD d) 1)).toNat, (iOf (nthD (ptsD d) 2)).toNat, (iOf (nthD (ptsD d) 3)).toNat, u8Of (nthD (ptsD (nthD (ptsD d) 4)) 0), u8Of (nthD (ptsD (nthD (ptsD d) 4)) 1), (eOf (nthD (ptsD d) 5)).map u8Of, (eOf (nthD (ptsD d) 6)).map u8Of⟩
@[reducible] def rolesSV (l : List (DataW H)) : EV := .g l.length 2 fun i => [.int .u8 (iOf (nthD (ptsD (nthD l i)) 0)), .int .u8 (iOf (nthD (ptsD (nthD l i)) 1))]
@[reducible] def rawQSV (d : DataW H) : List SV := [.int .u16 (iOf (nthD (ptsD d) 0)), .int .u32 (iOf (nthD (ptsD d) 1)), .ro (.u8 ((eOf (nthD (ptsD d) 2)).map u8Of)), .ro (rolesSV (eOf (nthD (ptsD d) 3)))]
def pairD (d : DataW H) : UInt8 × UInt8 := (u8Of (nthD (ptsD d) 0), u8Of (nthD (ptsD d) 1))
def rawQD (d : DataW H) : RawQ := ⟨(iOf (nthD (ptsD d) 0)).toNat, (iOf (nthD (ptsD d) 1)).toNat, (eOf (nthD (ptsD d) 2)).map u8Of, (eOf (nthD (ptsD d) 3)).map pairD⟩
theorem u8Of_i (x : DataW H) (h : inR .u8 (iOf x)) : iOf x = ((u8Of x).toNat : Int) := by
  have h1 := u8_iff h
  unfold u8Of
  have h2 : (iOf x).toNat < 256 := by omega
  rw [UInt8.toNat_ofNat_of_lt' h2]
  omega
theorem rawD_l (d : DataW H) (h : factsL (rawSV d)) : rawSV d = (rawD d).l := by
  obtain ⟨h0, h1, h2, h3, h4, h5, _⟩ := h
  have a0 := u16_iff h0
  have a1 := u16_iff h1
  have a2 := u32_iff h2
  have a3 := u32_iff h3
  show [_, _, _, _, _, _, _, _] = [SV.int .u16 (((iOf (nthD (ptsD d) 0)).toNat : Nat) : Int), SV.int .u16 (((iOf (nthD (ptsD d) 1)).toNat : Nat) : Int), SV.int .u32 (((iOf (nthD (ptsD d) 2)).toNat : Nat) : Int), SV.int .u32 (((iOf (nthD (ptsD d) 3)).toNat : Nat) : Int), SV.int .u8 ((u8Of (nthD (ptsD (nthD (ptsD d) 4)) 0)).toNat : Int), SV.int .u8 ((u8Of (nthD (ptsD (nthD (ptsD d) 4)) 1)).toNat : Int), _, _]
  rw [Int.toNat_of_nonneg a0.1, Int.toNat_of_nonneg a1.1, Int.toNat_of_nonneg a2.1, Int.toNat_of_nonneg a3.1, ← u8Of_i _ h4, ← u8Of_i _ h5]
  rfl
theorem rolesSV_eq (l : List (DataW H)) (h : ∀ i, i < l.length → inR .u8 (iOf (nthD (ptsD (nthD l i)) 0)) ∧ inR .u8 (iOf (nthD (ptsD (nthD l i)) 1))) : rolesSV l = rawRoles (l.map pairD) := by
  show EV.g _ _ _ = EV.g _ _ _
  rw [List.length_map]
  congr 1
  funext i
  have e : (l.map pairD).getD i (0, 0) = pairD (nthD l i) := map_nthD pairD l i
  rw [e]
  by_cases hi : i < l.length
  · obtain ⟨h1, h2⟩ := h i hi
    show [SV.int .u8 _, SV.int .u8 _] = [SV.int .u8 ((u8Of (nthD (ptsD (nthD l i)) 0)).toNat : Int), SV.int .u8 ((u8Of (nthD (ptsD (nthD l i)) 1)).toNat : Int)]
    rw [← u8Of_i _ h1, ← u8Of_i _ h2]
  · rw [nthD_out l i (by omega)]
    rfl
theorem rawQD_l (d : DataW H) (h : factsL (rawQSV d)) : rawQSV d = (rawQD d).l := by
  obtain ⟨h0, h1, _, ⟨_, h3⟩, _⟩ := h
  have a0 := u16_iff h0
  have a1 := u32_iff h1
  have e := rolesSV_eq (eOf (nthD (ptsD d) 3)) fun i hi => ⟨(h3 i hi).1, (h3 i hi).2.1⟩
  show [_, _, _, SV.ro (rolesSV (eOf (nthD (ptsD d) 3)))] = [SV.int .u16 (((iOf (nthD (ptsD d) 0)).toNat : Nat) : Int), SV.int .u32 (((iOf (nthD (ptsD d) 1)).toNat : Nat) : Int), _, SV.ro (rawRoles ((eOf (nthD (ptsD d) 3)).map pairD))]
  rw [Int.toNat_of_nonneg a0.1, Int.toNat_of_nonneg a1.1, e]
  rfl
end
end Go.Proofs.YtegbdcadlmefgaaDoor
end
section
namespace Go.Proofs.YtegbdcadlmefgaaDoor
open Go.RowKit V
--PURE: (intro _ _; simp [pureL, pureS, pureE]; done)
set_option maxRecDepth 100000
set_option maxHeartbeats 4000000
set_option linter.unusedSimpArgs false
theorem valid_small (v f e z c : Int) : validB { smallR with version := v, floor := f, expiry := e, size := z, chunks := c } = (inB v 1 60000 && (inB f 0 v && (inB e 0 1000000000 && (inB z 0 65536 && inB c 1 256)))) := by
  have h2 : valid2 { smallR with version := v, floor := f, expiry := e, size := z, chunks := c } = true := by unfold valid2; exact (by decide +kernel : (decide (([] : List Int).length ≤ 16) && (risB [] 0 60000 && decide (([] : List PartL).length ≤ 8))) = true)
  have h3 : valid3 { smallR with version := v, floor := f, expiry := e, size := z, chunks := c } = true := decide_eq_true fun i hi => absurd hi (Nat.not_lt_zero _)
  have h4 : valid4 { smallR with version := v, floor := f, expiry := e, size := z, chunks := c } = true := decide_eq_true fun i hi => absurd hi (Nat.not_lt_zero _)
  unfold validB
  rw [h2, h3, h4]
  exact Bool.and_true _
def rootT (g e n : Int) : RootL := ⟨g, e, [List.replicate 32 7], [⟨[97], [0], n⟩]⟩
theorem valid_rootT (g e n : Int) : rootB (rootT g e n) = (inB g 1 1000000 && (inB e 0 1000000000 && inB n 1 1)) := by
  have h2 : root2 (rootT g e n) = true := by unfold root2; exact (by decide +kernel : decide (∀ i, i < ([List.replicate 32 7] : List (List UInt8)).length → ∀ k, k < i → ([List.replicate 32 7] : List (List UInt8)).getD k [] ≠ ([List.replicate 32 7] : List (List UInt8)).getD i []) = true)
  have hp : plainB [97] = true := by decide +kernel
  have hr : risB [0] 0 ((([List.replicate 32 7] : List (List UInt8)).length : Int) - 1) = true := by decide +kernel
  have h3 : root3 (rootT g e n) = inB n 1 1 := by
    unfold root3
    cases hi : inB n 1 1 with
    | true =>
      refine decide_eq_true fun i h => ?_
      have h : i < 1 := h
      obtain rfl : i = 0 := by omega
      exact ⟨hp, fun h => absurd h (by omega), (show ([0] : List Int).length ≠ 0 by simp), hr, hi⟩
    | false =>
      refine decide_eq_false fun h => ?_
      have := (h 0 (show 0 < 1 by omega)).2.2.2.2
      rw [show inB n 1 1 = true from this] at hi
      cases hi
  unfold rootB root1
  rw [h2, h3]
  have hk : inB ((rootT g e n).keys.length : Int) 1 8 = true := (by decide +kernel : inB 1 1 8 = true)
  have ho : inB ((rootT g e n).roles.length : Int) 1 8 = true := (by decide +kernel : inB 1 1 8 = true)
  rw [hk, ho]
  show (inB g 1 1000000 && (inB e 0 1000000000 && (true && true)) && (true && inB n 1 1)) = _
  cases inB g 1 1000000 <;> cases inB e 0 1000000000 <;> cases inB n 1 1 <;> rfl
attribute [local irreducible] V.Sat V.DSat
theorem limits0 (n k : Int) (hk : k.tmod 8 = 0) : Fun Tryd.prog [] 9 [.int .i32 n, .int .u8 k] (.bool true) := by
  have e : validB ({ smallR with version := n, floor := 0 } : Rel) = inB n 1 60000 := by
    refine (valid_small n 0 3 65536 1).trans ?_
    unfold inB
    apply Bool.eq_iff_iff.2
    simp only [Bool.and_eq_true, decide_eq_true_eq]
    omega
  have v := valid_spec ({ smallR with version := n, floor := 0 } : Rel)
  rw [e] at v
  have q := x17s
  refine Fun.mkF 7 Tryd.func9 rfl Tryd.ntmps9 rfl rfl fun hf T w0 => ?_
  repeat' (first
      | ((with_reducible apply Sat.run (X := X64)); exact rfl; (first | exact True.intro | (exact phi) | skip))
      | ((with_reducible apply Sat.drawn); kernel_rfl)
      | ((with_reducible apply DSat.run (X := X64)); exact rfl; (first | exact True.intro | (exact phi) | skip))
      | ((with_reducible apply DSat.fin); kernel_rfl)
      | ((with_reducible apply Sat.cond_t); exact rfl)
      | ((with_reducible apply Sat.cond_f); exact rfl)
      | ((with_reducible apply Sat.cond_pt); exact rfl; (try dsimp only [V.EV.sub, V.EV.len]); first | assumption | omega)
      | ((with_reducible apply Sat.cond_pf); exact rfl; (try dsimp only [V.EV.sub, V.EV.len]); first | assumption | omega)
      | ((with_reducible apply Sat.cond_p); exact rfl; all_goals intro h)
      | ((with_reducible apply Sat.cond); exact rfl; all_goals intro h)
      | ((with_reducible apply Sat.gon); exact rfl; first | exact rfl | (decide +kernel))
      | ((with_reducible apply Sat.call0 (sanity_law)); exact rfl; exact rfl; kernel_rfl; exact rfl)
      | ((with_reducible apply DSat.call0 (sanity_law)); exact rfl; exact rfl; kernel_rfl; exact rfl)
      | ((with_reducible apply DSat.callM0 (sanity_law)); exact rfl; exact rfl; (first | exact rfl | assumption | (decide +kernel)); exact rfl; kernel_rfl; exact rfl)
      | ((with_reducible apply Sat.call0 (small_law)); exact rfl; exact rfl; kernel_rfl; exact rfl)
      | ((with_reducible apply DSat.call0 (small_law)); exact rfl; exact rfl; kernel_rfl; exact rfl)
      | ((with_reducible apply DSat.callM0 (small_law)); exact rfl; exact rfl; (first | exact rfl | assumption | (decide +kernel)); exact rfl; kernel_rfl; exact rfl)
      | ((with_reducible apply Sat.call0 (root_law)); exact rfl; exact rfl; kernel_rfl; exact rfl)
      | ((with_reducible apply DSat.call0 (root_law)); exact rfl; exact rfl; kernel_rfl; exact rfl)
      | ((with_reducible apply DSat.callM0 (root_law)); exact rfl; exact rfl; (first | exact rfl | assumption | (decide +kernel)); exact rfl; kernel_rfl; exact rfl)
      | ((with_reducible apply Sat.callR (v)); exact rfl; exact rfl; exact rfl; kernel_rfl; (exact cnvX); exact rfl)
      | ((with_reducible apply DSat.callR (v)); exact rfl; exact rfl; exact rfl; kernel_rfl; (exact cnvX); exact rfl)
      | ((with_reducible apply Sat.callR (q)); exact rfl; exact rfl; exact rfl; kernel_rfl; (exact cnvX); exact rfl)
      | ((with_reducible apply DSat.callR (q)); exact rfl; exact rfl; exact rfl; kernel_rfl; (exact cnvX); exact rfl)
      | ((with_reducible apply Sat.callG1 (q)); exact rfl; exact rfl; exact rfl; exact rfl; kernel_rfl; (intro hG; (exact cnvX)); exact rfl)
      | ((with_reducible apply DSat.callG1 (q)); exact rfl; exact rfl; exact rfl; exact rfl; kernel_rfl; (intro hG; (exact cnvX)); exact rfl) | fail)
  all_goals (refine Sat.fin (Sat.end1 rfl rfl rfl True.intro (.refl _ purX) (by first | exact .inl rfl | exact .inr rfl) (fun _ h => h)) ?_; (refine congrArg SV.bool ?_; unfold inB; generalize decide (1 ≤ n) = p1; generalize decide (n ≤ 60000) = p2; cases p1 <;> cases p2 <;> rfl))
theorem limits1 (n k : Int) (hk : k.tmod 8 = 1) : Fun Tryd.prog [] 9 [.int .i32 n, .int .u8 k] (.bool true) := by
  have e : validB ({ smallR with floor := n } : Rel) = inB n 0 258 := by
    refine (valid_small 258 n 3 65536 1).trans ?_
    unfold inB
    apply Bool.eq_iff_iff.2
    simp only [Bool.and_eq_true, decide_eq_true_eq]
    omega
  have v := valid_spec ({ smallR with floor := n } : Rel)
  rw [e] at v
  have q := x17s
  refine Fun.mkF 7 Tryd.func9 rfl Tryd.ntmps9 rfl rfl fun hf T w0 => ?_
  repeat' (first
      | ((with_reducible apply Sat.run (X := X64)); exact rfl; (first | exact True.intro | (exact phi) | skip))
      | ((with_reducible apply Sat.drawn); kernel_rfl)
      | ((with_reducible apply DSat.run (X := X64)); exact rfl; (first | exact True.intro | (exact phi) | skip))
      | ((with_reducible apply DSat.fin); kernel_rfl)
      | ((with_reducible apply Sat.cond_t); exact rfl)
      | ((with_reducible apply Sat.cond_f); exact rfl)
      | ((with_reducible apply Sat.cond_pt); exact rfl; (try dsimp only [V.EV.sub, V.EV.len]); first | assumption | omega)
      | ((with_reducible apply Sat.cond_pf); exact rfl; (try dsimp only [V.EV.sub, V.EV.len]); first | assumption | omega)
      | ((with_reducible apply Sat.cond_p); exact rfl; all_goals intro h)
      | ((with_reducible apply Sat.cond); exact rfl; all_goals intro h)
      | ((with_reducible apply Sat.gon); exact rfl; first | exact rfl | (decide +kernel))
      | ((with_reducible apply Sat.call0 (sanity_law)); exact rfl; exact rfl; kernel_rfl; exact rfl)
      | ((with_reducible apply DSat.call0 (sanity_law)); exact rfl; exact rfl; kernel_rfl; exact rfl)
      | ((with_reducible apply DSat.callM0 (sanity_law)); exact rfl; exact rfl; (first | exact rfl | assumption | (decide +kernel)); exact rfl; kernel_rfl; exact rfl)
      | ((with_reducible apply Sat.call0 (small_law)); exact rfl; exact rfl; kernel_rfl; exact rfl)
      | ((with_reducible apply DSat.call0 (small_law)); exact rfl; exact rfl; kernel_rfl; exact rfl)
      | ((with_reducible apply DSat.callM0 (small_law)); exact rfl; exact rfl; (first | exact rfl | assumption | (decide +kernel)); exact rfl; kernel_rfl; exact rfl)
      | ((with_reducible apply Sat.call0 (root_law)); exact rfl; exact rfl; kernel_rfl; exact rfl)
      | ((with_reducible apply DSat.call0 (root_law)); exact rfl; exact rfl; kernel_rfl; exact rfl)
      | ((with_reducible apply DSat.callM0 (root_law)); exact rfl; exact rfl; (first | exact rfl | assumption | (decide +kernel)); exact rfl; kernel_rfl; exact rfl)
      | ((with_reducible apply Sat.callR (v)); exact rfl; exact rfl; exact rfl; kernel_rfl; (exact cnvX); exact rfl)
      | ((with_reducible apply DSat.callR (v)); exact rfl; exact rfl; exact rfl; kernel_rfl; (exact cnvX); exact rfl)
      | ((with_reducible apply Sat.callR (q)); exact rfl; exact rfl; exact rfl; kernel_rfl; (exact cnvX); exact rfl)
      | ((with_reducible apply DSat.callR (q)); exact rfl; exact rfl; exact rfl; kernel_rfl; (exact cnvX); exact rfl)
      | ((with_reducible apply Sat.callG1 (q)); exact rfl; exact rfl; exact rfl; exact rfl; kernel_rfl; (intro hG; (exact cnvX)); exact rfl)
      | ((with_reducible apply DSat.callG1 (q)); exact rfl; exact rfl; exact rfl; exact rfl; kernel_rfl; (intro hG; (exact cnvX)); exact rfl) | fail)
  all_goals (refine Sat.fin (Sat.end1 rfl rfl rfl True.intro (.refl _ purX) (by first | exact .inl rfl | exact .inr rfl) (fun _ h => h)) ?_; (refine congrArg SV.bool ?_; unfold inB; generalize decide (0 ≤ n) = p1; generalize decide (n ≤ 258) = p2; cases p1 <;> cases p2 <;> rfl))
theorem limits2 (n k : Int) (hk : k.tmod 8 = 2) : Fun Tryd.prog [] 9 [.int .i32 n, .int .u8 k] (.bool true) := by
  have e : validB ({ smallR with expiry := n } : Rel) = inB n 0 1000000000 := by
    refine (valid_small 258 1 n 65536 1).trans ?_
    unfold inB
    apply Bool.eq_iff_iff.2
    simp only [Bool.and_eq_true, decide_eq_true_eq]
    omega
  have v := valid_spec ({ smallR with expiry := n } : Rel)
  rw [e] at v
  have q := x17s
  refine Fun.mkF 7 Tryd.func9 rfl Tryd.ntmps9 rfl rfl fun hf T w0 => ?_
  repeat' (first
      | ((with_reducible apply Sat.run (X := X64)); exact rfl; (first | exact True.intro | (exact phi) | skip))
      | ((with_reducible apply Sat.drawn); kernel_rfl)
      | ((with_reducible apply DSat.run (X := X64)); exact rfl; (first | exact True.intro | (exact phi) | skip))
      | ((with_reducible apply DSat.fin); kernel_rfl)
      | ((with_reducible apply Sat.cond_t); exact rfl)
      | ((with_reducible apply Sat.cond_f); exact rfl)
      | ((with_reducible apply Sat.cond_pt); exact rfl; (try dsimp only [V.EV.sub, V.EV.len]); first | assumption | omega)
      | ((with_reducible apply Sat.cond_pf); exact rfl; (try dsimp only [V.EV.sub, V.EV.len]); first | assumption | omega)
      | ((with_reducible apply Sat.cond_p); exact rfl; all_goals intro h)
      | ((with_reducible apply Sat.cond); exact rfl; all_goals intro h)
      | ((with_reducible apply Sat.gon); exact rfl; first | exact rfl | (decide +kernel))
      | ((with_reducible apply Sat.call0 (sanity_law)); exact rfl; exact rfl; kernel_rfl; exact rfl)
      | ((with_reducible apply DSat.call0 (sanity_law)); exact rfl; exact rfl; kernel_rfl; exact rfl)
      | ((with_reducible apply DSat.callM0 (sanity_law)); exact rfl; exact rfl; (first | exact rfl | assumption | (decide +kernel)); exact rfl; kernel_rfl; exact rfl)
      | ((with_reducible apply Sat.call0 (small_law)); exact rfl; exact rfl; kernel_rfl; exact rfl)
      | ((with_reducible apply DSat.call0 (small_law)); exact rfl; exact rfl; kernel_rfl; exact rfl)
      | ((with_reducible apply DSat.callM0 (small_law)); exact rfl; exact rfl; (first | exact rfl | assumption | (decide +kernel)); exact rfl; kernel_rfl; exact rfl)
      | ((with_reducible apply Sat.call0 (root_law)); exact rfl; exact rfl; kernel_rfl; exact rfl)
      | ((with_reducible apply DSat.call0 (root_law)); exact rfl; exact rfl; kernel_rfl; exact rfl)
      | ((with_reducible apply DSat.callM0 (root_law)); exact rfl; exact rfl; (first | exact rfl | assumption | (decide +kernel)); exact rfl; kernel_rfl; exact rfl)
      | ((with_reducible apply Sat.callR (v)); exact rfl; exact rfl; exact rfl; kernel_rfl; (exact cnvX); exact rfl)
      | ((with_reducible apply DSat.callR (v)); exact rfl; exact rfl; exact rfl; kernel_rfl; (exact cnvX); exact rfl)
      | ((with_reducible apply Sat.callR (q)); exact rfl; exact rfl; exact rfl; kernel_rfl; (exact cnvX); exact rfl)
      | ((with_reducible apply DSat.callR (q)); exact rfl; exact rfl; exact rfl; kernel_rfl; (exact cnvX); exact rfl)
      | ((with_reducible apply Sat.callG1 (q)); exact rfl; exact rfl; exact rfl; exact rfl; kernel_rfl; (intro hG; (exact cnvX)); exact rfl)
      | ((with_reducible apply DSat.callG1 (q)); exact rfl; exact rfl; exact rfl; exact rfl; kernel_rfl; (intro hG; (exact cnvX)); exact rfl) | fail)
  all_goals (refine Sat.fin (Sat.end1 rfl rfl rfl True.intro (.refl _ purX) (by first | exact .inl rfl | exact .inr rfl) (fun _ h => h)) ?_; (refine congrArg SV.bool ?_; unfold inB; generalize decide (0 ≤ n) = p1; generalize decide (n ≤ 1000000000) = p2; cases p1 <;> cases p2 <;> rfl))
theorem limits3 (n k : Int) (hk : k.tmod 8 = 3) : Fun Tryd.prog [] 9 [.int .i32 n, .int .u8 k] (.bool true) := by
  have e : validB ({ smallR with size := n } : Rel) = inB n 0 65536 := by
    refine (valid_small 258 1 3 n 1).trans ?_
    unfold inB
    apply Bool.eq_iff_iff.2
    simp only [Bool.and_eq_true, decide_eq_true_eq]
    omega
  have v := valid_spec ({ smallR with size := n } : Rel)
  rw [e] at v
  have q := x17s
  refine Fun.mkF 7 Tryd.func9 rfl Tryd.ntmps9 rfl rfl fun hf T w0 => ?_
  repeat' (first
      | ((with_reducible apply Sat.run (X := X64)); exact rfl; (first | exact True.intro | (exact phi) | skip))
      | ((with_reducible apply Sat.drawn); kernel_rfl)
      | ((with_reducible apply DSat.run (X := X64)); exact rfl; (first | exact True.intro | (exact phi) | skip))
      | ((with_reducible apply DSat.fin); kernel_rfl)
      | ((with_reducible apply Sat.cond_t); exact rfl)
      | ((with_reducible apply Sat.cond_f); exact rfl)
      | ((with_reducible apply Sat.cond_pt); exact rfl; (try dsimp only [V.EV.sub, V.EV.len]); first | assumption | omega)
      | ((with_reducible apply Sat.cond_pf); exact rfl; (try dsimp only [V.EV.sub, V.EV.len]); first | assumption | omega)
      | ((with_reducible apply Sat.cond_p); exact rfl; all_goals intro h)
      | ((with_reducible apply Sat.cond); exact rfl; all_goals intro h)
      | ((with_reducible apply Sat.gon); exact rfl; first | exact rfl | (decide +kernel))
      | ((with_reducible apply Sat.call0 (sanity_law)); exact rfl; exact rfl; kernel_rfl; exact rfl)
      | ((with_reducible apply DSat.call0 (sanity_law)); exact rfl; exact rfl; kernel_rfl; exact rfl)
      | ((with_reducible apply DSat.callM0 (sanity_law)); exact rfl; exact rfl; (first | exact rfl | assumption | (decide +kernel)); exact rfl; kernel_rfl; exact rfl)
      | ((with_reducible apply Sat.call0 (small_law)); exact rfl; exact rfl; kernel_rfl; exact rfl)
      | ((with_reducible apply DSat.call0 (small_law)); exact rfl; exact rfl; kernel_rfl; exact rfl)
      | ((with_reducible apply DSat.callM0 (small_law)); exact rfl; exact rfl; (first | exact rfl | assumption | (decide +kernel)); exact rfl; kernel_rfl; exact rfl)
      | ((with_reducible apply Sat.call0 (root_law)); exact rfl; exact rfl; kernel_rfl; exact rfl)
      | ((with_reducible apply DSat.call0 (root_law)); exact rfl; exact rfl; kernel_rfl; exact rfl)
      | ((with_reducible apply DSat.callM0 (root_law)); exact rfl; exact rfl; (first | exact rfl | assumption | (decide +kernel)); exact rfl; kernel_rfl; exact rfl)
      | ((with_reducible apply Sat.callR (v)); exact rfl; exact rfl; exact rfl; kernel_rfl; (exact cnvX); exact rfl)
      | ((with_reducible apply DSat.callR (v)); exact rfl; exact rfl; exact rfl; kernel_rfl; (exact cnvX); exact rfl)
      | ((with_reducible apply Sat.callR (q)); exact rfl; exact rfl; exact rfl; kernel_rfl; (exact cnvX); exact rfl)
      | ((with_reducible apply DSat.callR (q)); exact rfl; exact rfl; exact rfl; kernel_rfl; (exact cnvX); exact rfl)
      | ((with_reducible apply Sat.callG1 (q)); exact rfl; exact rfl; exact rfl; exact rfl; kernel_rfl; (intro hG; (exact cnvX)); exact rfl)
      | ((with_reducible apply DSat.callG1 (q)); exact rfl; exact rfl; exact rfl; exact rfl; kernel_rfl; (intro hG; (exact cnvX)); exact rfl) | fail)
  all_goals (refine Sat.fin (Sat.end1 rfl rfl rfl True.intro (.refl _ purX) (by first | exact .inl rfl | exact .inr rfl) (fun _ h => h)) ?_; (refine congrArg SV.bool ?_; unfold inB; generalize decide (0 ≤ n) = p1; generalize decide (n ≤ 65536) = p2; cases p1 <;> cases p2 <;> rfl))
theorem limits4 (n k : Int) (hk : k.tmod 8 = 4) : Fun Tryd.prog [] 9 [.int .i32 n, .int .u8 k] (.bool true) := by
  have e : validB ({ smallR with chunks := n } : Rel) = inB n 1 256 := by
    refine (valid_small 258 1 3 65536 n).trans ?_
    unfold inB
    apply Bool.eq_iff_iff.2
    simp only [Bool.and_eq_true, decide_eq_true_eq]
    omega
  have v := valid_spec ({ smallR with chunks := n } : Rel)
  rw [e] at v
  have q := x17s
  refine Fun.mkF 7 Tryd.func9 rfl Tryd.ntmps9 rfl rfl fun hf T w0 => ?_
  repeat' (first
      | ((with_reducible apply Sat.run (X := X64)); exact rfl; (first | exact True.intro | (exact phi) | skip))
      | ((with_reducible apply Sat.drawn); kernel_rfl)
      | ((with_reducible apply DSat.run (X := X64)); exact rfl; (first | exact True.intro | (exact phi) | skip))
      | ((with_reducible apply DSat.fin); kernel_rfl)
      | ((with_reducible apply Sat.cond_t); exact rfl)
      | ((with_reducible apply Sat.cond_f); exact rfl)
      | ((with_reducible apply Sat.cond_pt); exact rfl; (try dsimp only [V.EV.sub, V.EV.len]); first | assumption | omega)
      | ((with_reducible apply Sat.cond_pf); exact rfl; (try dsimp only [V.EV.sub, V.EV.len]); first | assumption | omega)
      | ((with_reducible apply Sat.cond_p); exact rfl; all_goals intro h)
      | ((with_reducible apply Sat.cond); exact rfl; all_goals intro h)
      | ((with_reducible apply Sat.gon); exact rfl; first | exact rfl | (decide +kernel))
      | ((with_reducible apply Sat.call0 (sanity_law)); exact rfl; exact rfl; kernel_rfl; exact rfl)
      | ((with_reducible apply DSat.call0 (sanity_law)); exact rfl; exact rfl; kernel_rfl; exact rfl)
      | ((with_reducible apply DSat.callM0 (sanity_law)); exact rfl; exact rfl; (first | exact rfl | assumption | (decide +kernel)); exact rfl; kernel_rfl; exact rfl)
      | ((with_reducible apply Sat.call0 (small_law)); exact rfl; exact rfl; kernel_rfl; exact rfl)
      | ((with_reducible apply DSat.call0 (small_law)); exact rfl; exact rfl; kernel_rfl; exact rfl)
      | ((with_reducible apply DSat.callM0 (small_law)); exact rfl; exact rfl; (first | exact rfl | assumption | (decide +kernel)); exact rfl; kernel_rfl; exact rfl)
      | ((with_reducible apply Sat.call0 (root_law)); exact rfl; exact rfl; kernel_rfl; exact rfl)
      | ((with_reducible apply DSat.call0 (root_law)); exact rfl; exact rfl; kernel_rfl; exact rfl)
      | ((with_reducible apply DSat.callM0 (root_law)); exact rfl; exact rfl; (first | exact rfl | assumption | (decide +kernel)); exact rfl; kernel_rfl; exact rfl)
      | ((with_reducible apply Sat.callR (v)); exact rfl; exact rfl; exact rfl; kernel_rfl; (exact cnvX); exact rfl)
      | ((with_reducible apply DSat.callR (v)); exact rfl; exact rfl; exact rfl; kernel_rfl; (exact cnvX); exact rfl)
      | ((with_reducible apply Sat.callR (q)); exact rfl; exact rfl; exact rfl; kernel_rfl; (exact cnvX); exact rfl)
      | ((with_reducible apply DSat.callR (q)); exact rfl; exact rfl; exact rfl; kernel_rfl; (exact cnvX); exact rfl)
      | ((with_reducible apply Sat.callG1 (q)); exact rfl; exact rfl; exact rfl; exact rfl; kernel_rfl; (intro hG; (exact cnvX)); exact rfl)
      | ((with_reducible apply DSat.callG1 (q)); exact rfl; exact rfl; exact rfl; exact rfl; kernel_rfl; (intro hG; (exact cnvX)); exact rfl) | fail)
  all_goals (refine Sat.fin (Sat.end1 rfl rfl rfl True.intro (.refl _ purX) (by first | exact .inl rfl | exact .inr rfl) (fun _ h => h)) ?_; (refine congrArg SV.bool ?_; unfold inB; generalize decide (1 ≤ n) = p1; generalize decide (n ≤ 256) = p2; cases p1 <;> cases p2 <;> rfl))
theorem limits5 (n k : Int) (hk : k.tmod 8 = 5) : Fun Tryd.prog [] 9 [.int .i32 n, .int .u8 k] (.bool true) := by
  have e : rootB ({ rootS with gen := n } : RootL) = inB n 1 1000000 := by
    refine (valid_rootT n 2 1).trans ?_
    unfold inB
    apply Bool.eq_iff_iff.2
    simp only [Bool.and_eq_true, decide_eq_true_eq]
    omega
  have q := validRoot_spec ({ rootS with gen := n } : RootL)
  rw [e] at q
  have v := x12s
  refine Fun.mkF 7 Tryd.func9 rfl Tryd.ntmps9 rfl rfl fun hf T w0 => ?_
  repeat' (first
      | ((with_reducible apply Sat.run (X := X64)); exact rfl; (first | exact True.intro | (exact phi) | skip))
      | ((with_reducible apply Sat.drawn); kernel_rfl)
      | ((with_reducible apply DSat.run (X := X64)); exact rfl; (first | exact True.intro | (exact phi) | skip))
      | ((with_reducible apply DSat.fin); kernel_rfl)
      | ((with_reducible apply Sat.cond_t); exact rfl)
      | ((with_reducible apply Sat.cond_f); exact rfl)
      | ((with_reducible apply Sat.cond_pt); exact rfl; (try dsimp only [V.EV.sub, V.EV.len]); first | assumption | omega)
      | ((with_reducible apply Sat.cond_pf); exact rfl; (try dsimp only [V.EV.sub, V.EV.len]); first | assumption | omega)
      | ((with_reducible apply Sat.cond_p); exact rfl; all_goals intro h)
      | ((with_reducible apply Sat.cond); exact rfl; all_goals intro h)
      | ((with_reducible apply Sat.gon); exact rfl; first | exact rfl | (decide +kernel))
      | ((with_reducible apply Sat.call0 (sanity_law)); exact rfl; exact rfl; kernel_rfl; exact rfl)
      | ((with_reducible apply DSat.call0 (sanity_law)); exact rfl; exact rfl; kernel_rfl; exact rfl)
      | ((with_reducible apply DSat.callM0 (sanity_law)); exact rfl; exact rfl; (first | exact rfl | assumption | (decide +kernel)); exact rfl; kernel_rfl; exact rfl)
      | ((with_reducible apply Sat.call0 (small_law)); exact rfl; exact rfl; kernel_rfl; exact rfl)
      | ((with_reducible apply DSat.call0 (small_law)); exact rfl; exact rfl; kernel_rfl; exact rfl)
      | ((with_reducible apply DSat.callM0 (small_law)); exact rfl; exact rfl; (first | exact rfl | assumption | (decide +kernel)); exact rfl; kernel_rfl; exact rfl)
      | ((with_reducible apply Sat.call0 (root_law)); exact rfl; exact rfl; kernel_rfl; exact rfl)
      | ((with_reducible apply DSat.call0 (root_law)); exact rfl; exact rfl; kernel_rfl; exact rfl)
      | ((with_reducible apply DSat.callM0 (root_law)); exact rfl; exact rfl; (first | exact rfl | assumption | (decide +kernel)); exact rfl; kernel_rfl; exact rfl)
      | ((with_reducible apply Sat.callR (v)); exact rfl; exact rfl; exact rfl; kernel_rfl; (exact cnvX); exact rfl)
      | ((with_reducible apply DSat.callR (v)); exact rfl; exact rfl; exact rfl; kernel_rfl; (exact cnvX); exact rfl)
      | ((with_reducible apply Sat.callR (q)); exact rfl; exact rfl; exact rfl; kernel_rfl; (exact cnvX); exact rfl)
      | ((with_reducible apply DSat.callR (q)); exact rfl; exact rfl; exact rfl; kernel_rfl; (exact cnvX); exact rfl)
      | ((with_reducible apply Sat.callG1 (q)); exact rfl; exact rfl; exact rfl; exact rfl; kernel_rfl; (intro hG; (exact cnvX)); exact rfl)
      | ((with_reducible apply DSat.callG1 (q)); exact rfl; exact rfl; exact rfl; exact rfl; kernel_rfl; (intro hG; (exact cnvX)); exact rfl) | fail)
  all_goals (refine Sat.fin (Sat.end1 rfl rfl rfl True.intro (.refl _ purX) (by first | exact .inl rfl | exact .inr rfl) (fun _ h => h)) ?_; (refine congrArg SV.bool ?_; unfold inB; generalize decide (1 ≤ n) = p1; generalize decide (n ≤ 1000000) = p2; cases p1 <;> cases p2 <;> rfl))
theorem limits6 (n k : Int) (hk : k.tmod 8 = 6) : Fun Tryd.prog [] 9 [.int .i32 n, .int .u8 k] (.bool true) := by
  have e : rootB ({ rootS with expiry := n } : RootL) = inB n 0 1000000000 := by
    refine (valid_rootT 1 n 1).trans ?_
    unfold inB
    apply Bool.eq_iff_iff.2
    simp only [Bool.and_eq_true, decide_eq_true_eq]
    omega
  have q := validRoot_spec ({ rootS with expiry := n } : RootL)
  rw [e] at q
  have v := x12s
  refine Fun.mkF 7 Tryd.func9 rfl Tryd.ntmps9 rfl rfl fun hf T w0 => ?_
  repeat' (first
      | ((with_reducible apply Sat.run (X := X64)); exact rfl; (first | exact True.intro | (exact phi) | skip))
      | ((with_reducible apply Sat.drawn); kernel_rfl)
      | ((with_reducible apply DSat.run (X := X64)); exact rfl; (first | exact True.intro | (exact phi) | skip))
      | ((with_reducible apply DSat.fin); kernel_rfl)
      | ((with_reducible apply Sat.cond_t); exact rfl)
      | ((with_reducible apply Sat.cond_f); exact rfl)
      | ((with_reducible apply Sat.cond_pt); exact rfl; (try dsimp only [V.EV.sub, V.EV.len]); first | assumption | omega)
      | ((with_reducible apply Sat.cond_pf); exact rfl; (try dsimp only [V.EV.sub, V.EV.len]); first | assumption | omega)
      | ((with_reducible apply Sat.cond_p); exact rfl; all_goals intro h)
      | ((with_reducible apply Sat.cond); exact rfl; all_goals intro h)
      | ((with_reducible apply Sat.gon); exact rfl; first | exact rfl | (decide +kernel))
      | ((with_reducible apply Sat.call0 (sanity_law)); exact rfl; exact rfl; kernel_rfl; exact rfl)
      | ((with_reducible apply DSat.call0 (sanity_law)); exact rfl; exact rfl; kernel_rfl; exact rfl)
      | ((with_reducible apply DSat.callM0 (sanity_law)); exact rfl; exact rfl; (first | exact rfl | assumption | (decide +kernel)); exact rfl; kernel_rfl; exact rfl)
      | ((with_reducible apply Sat.call0 (small_law)); exact rfl; exact rfl; kernel_rfl; exact rfl)
      | ((with_reducible apply DSat.call0 (small_law)); exact rfl; exact rfl; kernel_rfl; exact rfl)
      | ((with_reducible apply DSat.callM0 (small_law)); exact rfl; exact rfl; (first | exact rfl | assumption | (decide +kernel)); exact rfl; kernel_rfl; exact rfl)
      | ((with_reducible apply Sat.call0 (root_law)); exact rfl; exact rfl; kernel_rfl; exact rfl)
      | ((with_reducible apply DSat.call0 (root_law)); exact rfl; exact rfl; kernel_rfl; exact rfl)
      | ((with_reducible apply DSat.callM0 (root_law)); exact rfl; exact rfl; (first | exact rfl | assumption | (decide +kernel)); exact rfl; kernel_rfl; exact rfl)
      | ((with_reducible apply Sat.callR (v)); exact rfl; exact rfl; exact rfl; kernel_rfl; (exact cnvX); exact rfl)
      | ((with_reducible apply DSat.callR (v)); exact rfl; exact rfl; exact rfl; kernel_rfl; (exact cnvX); exact rfl)
      | ((with_reducible apply Sat.callR (q)); exact rfl; exact rfl; exact rfl; kernel_rfl; (exact cnvX); exact rfl)
      | ((with_reducible apply DSat.callR (q)); exact rfl; exact rfl; exact rfl; kernel_rfl; (exact cnvX); exact rfl)
      | ((with_reducible apply Sat.callG1 (q)); exact rfl; exact rfl; exact rfl; exact rfl; kernel_rfl; (intro hG; (exact cnvX)); exact rfl)
      | ((with_reducible apply DSat.callG1 (q)); exact rfl; exact rfl; exact rfl; exact rfl; kernel_rfl; (intro hG; (exact cnvX)); exact rfl) | fail)
  all_goals (refine Sat.fin (Sat.end1 rfl rfl rfl True.intro (.refl _ purX) (by first | exact .inl rfl | exact .inr rfl) (fun _ h => h)) ?_; (refine congrArg SV.bool ?_; unfold inB; generalize decide (0 ≤ n) = p1; generalize decide (n ≤ 1000000000) = p2; cases p1 <;> cases p2 <;> rfl))
end Go.Proofs.YtegbdcadlmefgaaDoor
end
section
namespace Go.Proofs.YtegbdcadlmefgaaDoor
open Go.RowKit V
--PURE: (intro _ _; simp [pureL, pureS, pureE]; done)
set_option maxRecDepth 100000
set_option maxHeartbeats 4000000
set_option linter.unusedSimpArgs false
attribute [local irreducible] V.Sat V.DSat
theorem limits7 (n k : Int) (hk : ∀ j, 0 ≤ j → j < 7 → k.tmod 8 ≠ j) : Fun Tryd.prog [] 9 [.int .i32 n, .int .u8 k] (.bool true) := by
  have v := x12s
  have q := validRoot_spec (rootT 1 2 n)
  have e : rootB (rootT 1 2 n) = inB n 1 1 := by
    refine (valid_rootT 1 2 n).trans ?_
    unfold inB
    apply Bool.eq_iff_iff.2
    simp only [Bool.and_eq_true, decide_eq_true_eq]
    omega
  rw [e] at q
  have hl : (List.replicate 32 (7 : UInt8)).length = 32 := rfl
  have hv : ∀ x, x < 32 → (List.replicate 32 (7 : UInt8)).getD x 0 = 7 := fun x hx => by rw [List.getD_eq_getElem?_getD, List.getElem?_replicate, if_pos hx]; rfl
  have h0 : ¬ k.tmod 8 = 0 := hk 0 (by omega) (by omega)
  have h1 : ¬ k.tmod 8 = 1 := hk 1 (by omega) (by omega)
  have h2 : ¬ k.tmod 8 = 2 := hk 2 (by omega) (by omega)
  have h3 : ¬ k.tmod 8 = 3 := hk 3 (by omega) (by omega)
  have h4 : ¬ k.tmod 8 = 4 := hk 4 (by omega) (by omega)
  have h5 : ¬ k.tmod 8 = 5 := hk 5 (by omega) (by omega)
  have h6 : ¬ k.tmod 8 = 6 := hk 6 (by omega) (by omega)
  refine Fun.mkF 7 Tryd.func9 rfl Tryd.ntmps9 rfl rfl fun hf T w0 => ?_
  repeat' (first
      | ((with_reducible apply Sat.run (X := X64)); exact rfl; (first | exact True.intro | (exact phi) | skip))
      | ((with_reducible apply Sat.drawn); kernel_rfl)
      | ((with_reducible apply DSat.run (X := X64)); exact rfl; (first | exact True.intro | (exact phi) | skip))
      | ((with_reducible apply DSat.fin); kernel_rfl)
      | ((with_reducible apply Sat.call0 (sanity_law)); exact rfl; exact rfl; kernel_rfl; exact rfl)
      | ((with_reducible apply DSat.call0 (sanity_law)); exact rfl; exact rfl; kernel_rfl; exact rfl)
      | ((with_reducible apply DSat.callM0 (sanity_law)); exact rfl; exact rfl; (first | exact rfl | assumption | (decide +kernel)); exact rfl; kernel_rfl; exact rfl)
      | ((with_reducible apply Sat.call0 (small_law)); exact rfl; exact rfl; kernel_rfl; exact rfl)
      | ((with_reducible apply DSat.call0 (small_law)); exact rfl; exact rfl; kernel_rfl; exact rfl)
      | ((with_reducible apply DSat.callM0 (small_law)); exact rfl; exact rfl; (first | exact rfl | assumption | (decide +kernel)); exact rfl; kernel_rfl; exact rfl)
      | ((with_reducible apply Sat.inl 7 [] Tryd.func30 Tryd.ntmps30); exact rfl; exact rfl; kernel_rfl; exact rfl; exact rfl; exact rfl; exact rfl; ((repeat' (first | exact AllP.nil | with_reducible refine AllP.cons ?_ ?_)) <;> (first | exact True.intro | exact purX)); intro _ _) | fail)
  generalize hm : List.replicate 32 (7 : UInt8) = m at hl hv
  apply Sat.loop (α := Nat) (fun x => x ≤ 32) (fun x => 32 - x) 0 (fun x => [(2, .int .i64 (x : Int))]) (fun x => [(1, .cells 23 [.arr 32 (.u8 (m.take x ++ List.replicate (32 - x) 0))])]) [] [] 0
  · intro x; exact rfl
  · intro x; exact rfl
  · exact rfl
  · exact rfl
  · (repeat' (first | exact AllP.nil | with_reducible refine AllP.cons ?_ ?_)) <;> first | exact rfl | exact trivial
  · exact Nat.zero_le _
  · intro x hx
    by_cases hx2 : x < 32
    · have e := set_step m x hl hx2
      rw [hv x hx2] at e
      repeat' (first
          | ((with_reducible apply Sat.run (X := X64)); exact rfl; (first | exact True.intro | (exact phi) | skip))
          | ((with_reducible apply Sat.drawn); kernel_rfl)
          | ((with_reducible apply DSat.run (X := X64)); exact rfl; (first | exact True.intro | (exact phi) | skip))
          | ((with_reducible apply DSat.fin); kernel_rfl)
          | ((with_reducible apply Sat.cond_t); exact rfl)
          | ((with_reducible apply Sat.cond_f); exact rfl)
          | ((with_reducible apply Sat.cond_pt); exact rfl; (try dsimp only [V.EV.sub, V.EV.len]); first | assumption | omega)
          | ((with_reducible apply Sat.cond_pf); exact rfl; (try dsimp only [V.EV.sub, V.EV.len]); first | assumption | omega)
          | ((with_reducible apply Sat.cond_p); exact rfl; all_goals intro h)
          | ((with_reducible apply Sat.cond); exact rfl; all_goals intro h) | fail)
      refine Sat.back (x + 1) [] rfl ?_ (by omega) (by omega)
      (repeat' (first | exact AllP.nil | with_reducible refine AllP.cons ?_ ?_)) <;> first | with_reducible exact rfl | exact Int.natCast_add_one _ | exact congrArg EV.u8 e | exact rfl | exact trivial
    · have hx3 : x = 32 := by omega
      subst hx3
      repeat' (first
          | ((with_reducible apply Sat.run (X := X64)); exact rfl; (first | exact True.intro | (exact phi) | skip))
          | ((with_reducible apply Sat.drawn); kernel_rfl)
          | ((with_reducible apply DSat.run (X := X64)); exact rfl; (first | exact True.intro | (exact phi) | skip))
          | ((with_reducible apply DSat.fin); kernel_rfl) | fail)
      with_reducible apply Sat.cond_f
      · exact rfl
      have e32 : m.take 32 ++ List.replicate (32 - 32) 0 = m := by rw [List.take_of_length_le (by omega)]; simp
      refine Sat.runN (X := X64) 6 rfl True.intro ?_
      rw [e32]
      refine Sat.enter ?_
      refine Sat.one (X := X64) rfl True.intro ?_
      refine Sat.one (X := X64) rfl True.intro ?_
      refine Sat.one (X := X64) rfl True.intro ?_
      refine Sat.one (X := X64) rfl True.intro ?_
      refine Sat.freezeR true 3 rfl ?_ ?_
      · (repeat' (first | exact AllP.nil | with_reducible refine AllP.cons ?_ ?_)) <;> first | exact rfl | exact trivial | exact .inl ⟨rfl, rfl, rfl⟩ | (intro _ _; simp [pureL, pureS, pureE]; done) | (intro _ _; exact rfl) | (intro _; exact rfl) | (intro _; exact trivial) | (intro _; exact .inl ⟨rfl, rfl, rfl⟩) | (intro _ _ _; simp [pureL, pureS, pureE]; done)  | (intro i hi; rcases i with _ | i; exact ⟨by simp [pureS, pureE], trivial⟩; exact trivial) | exact ⟨rfl, rfl, rfl, rfl⟩ | (intro z hz; have hz : z < 1 := hz; obtain rfl : z = 0 := (by omega); first | rfl | exact ⟨by simp [pureS, pureE], trivial⟩ | exact ⟨trivial, by simp [pureS, pureE], trivial, trivial⟩) | (intro _; exact ⟨rfl, rfl, rfl, rfl⟩)
      refine Sat.freezeR true 2 rfl ?_ ?_
      · (repeat' (first | exact AllP.nil | with_reducible refine AllP.cons ?_ ?_)) <;> first | exact rfl | exact trivial | exact .inl ⟨rfl, rfl, rfl⟩ | (intro _ _; simp [pureL, pureS, pureE]; done) | (intro _ _; exact rfl) | (intro _; exact rfl) | (intro _; exact trivial) | (intro _; exact .inl ⟨rfl, rfl, rfl⟩) | (intro _ _ _; simp [pureL, pureS, pureE]; done)  | (intro i hi; rcases i with _ | i; exact ⟨by simp [pureS, pureE], trivial⟩; exact trivial) | exact ⟨rfl, rfl, rfl, rfl⟩ | (intro z hz; have hz : z < 1 := hz; obtain rfl : z = 0 := (by omega); first | rfl | exact ⟨by simp [pureS, pureE], trivial⟩ | exact ⟨trivial, by simp [pureS, pureE], trivial, trivial⟩) | (intro _; exact ⟨rfl, rfl, rfl, rfl⟩)
      repeat' (first
          | ((with_reducible apply Sat.run (X := X64)); exact rfl; (first | exact True.intro | (exact phi) | skip))
          | ((with_reducible apply Sat.drawn); kernel_rfl)
          | ((with_reducible apply DSat.run (X := X64)); exact rfl; (first | exact True.intro | (exact phi) | skip))
          | ((with_reducible apply DSat.fin); kernel_rfl)
          | ((with_reducible apply Sat.cond_t); exact rfl)
          | ((with_reducible apply Sat.cond_f); exact rfl)
          | ((with_reducible apply Sat.cond_pt); exact rfl; (try dsimp only [V.EV.sub, V.EV.len]); first | assumption | omega)
          | ((with_reducible apply Sat.cond_pf); exact rfl; (try dsimp only [V.EV.sub, V.EV.len]); first | assumption | omega)
          | ((with_reducible apply Sat.cond_p); exact rfl; all_goals intro h)
          | ((with_reducible apply Sat.cond); exact rfl; all_goals intro h)
          | ((with_reducible apply Sat.out1 (C := ⟨_, _, _, _, _, _, _, _, _⟩)); exact rfl; (first | exact .inl rfl | exact .inr rfl); exact rfl; (exact phi); exact rfl)
          | ((with_reducible apply Sat.out0 (C := ⟨_, _, _, _, _, _, _, _, _⟩)); exact rfl; (first | exact .inl rfl | exact .inr rfl); exact rfl)
          | ((with_reducible apply Sat.out2 (C := ⟨_, _, _, _, _, _, _, _, _⟩)); exact rfl; (first | exact .inl rfl | exact .inr rfl); exact rfl; (exact phi); exact rfl; (exact phi); exact rfl)
          | ((with_reducible apply Sat.gon); exact rfl; first | exact rfl | (decide +kernel))
          | ((with_reducible apply Sat.callR (v)); exact rfl; exact rfl; exact rfl; kernel_rfl; (exact cnvX); exact rfl)
          | ((with_reducible apply DSat.callR (v)); exact rfl; exact rfl; exact rfl; kernel_rfl; (exact cnvX); exact rfl) | fail)
      with_reducible apply Sat.callR q
      · exact rfl
      · exact rfl
      · exact rfl
      · kernel_rfl
      · refine Convs.cons _ _ _ _ (Conv.may _ _ _ ?_ (.agg _ _ (.cons _ _ _ _ (.refl _ trivial) (.cons _ _ _ _ (.refl _ trivial) (.cons _ _ _ _ (.gx _ 1 32 _ _ (.refl _ ?_) ?_) (.cons _ _ _ _ (.gx _ 1 3 _ _ (.all _ _ _ _ _ rfl rfl rfl ?_) ?_) .nil)))))) .nil
        · exact rfl
        · intro i hi
          rcases i with _ | i
          · exact ⟨by simp [pureS, pureE], trivial⟩
          · exact trivial
        · intro i hi
          have hi : i < 1 := hi
          obtain rfl : i = 0 := by omega
          subst hm
          rfl
        · intro i hi
          have hi : i < 1 := hi
          obtain rfl : i = 0 := by omega
          exact ⟨trivial, by simp [pureS, pureE], trivial, trivial⟩
        · intro i hi
          have hi : i < 1 := hi
          obtain rfl : i = 0 := by omega
          rfl
      · exact rfl
      repeat' (first
          | ((with_reducible apply Sat.run (X := X64)); exact rfl; (first | exact True.intro | (exact phi) | skip))
          | ((with_reducible apply Sat.drawn); kernel_rfl)
          | ((with_reducible apply DSat.run (X := X64)); exact rfl; (first | exact True.intro | (exact phi) | skip))
          | ((with_reducible apply DSat.fin); kernel_rfl)
          | ((with_reducible apply Sat.cond_t); exact rfl)
          | ((with_reducible apply Sat.cond_f); exact rfl)
          | ((with_reducible apply Sat.cond_pt); exact rfl; (try dsimp only [V.EV.sub, V.EV.len]); first | assumption | omega)
          | ((with_reducible apply Sat.cond_pf); exact rfl; (try dsimp only [V.EV.sub, V.EV.len]); first | assumption | omega)
          | ((with_reducible apply Sat.cond_p); exact rfl; all_goals intro h)
          | ((with_reducible apply Sat.cond); exact rfl; all_goals intro h)
          | ((with_reducible apply Sat.out1 (C := ⟨_, _, _, _, _, _, _, _, _⟩)); exact rfl; (first | exact .inl rfl | exact .inr rfl); exact rfl; (exact phi); exact rfl)
          | ((with_reducible apply Sat.out0 (C := ⟨_, _, _, _, _, _, _, _, _⟩)); exact rfl; (first | exact .inl rfl | exact .inr rfl); exact rfl)
          | ((with_reducible apply Sat.out2 (C := ⟨_, _, _, _, _, _, _, _, _⟩)); exact rfl; (first | exact .inl rfl | exact .inr rfl); exact rfl; (exact phi); exact rfl; (exact phi); exact rfl)
          | ((with_reducible apply Sat.gon); exact rfl; first | exact rfl | (decide +kernel))
          | ((with_reducible apply Sat.callR (v)); exact rfl; exact rfl; exact rfl; kernel_rfl; (exact cnvX); exact rfl)
          | ((with_reducible apply DSat.callR (v)); exact rfl; exact rfl; exact rfl; kernel_rfl; (exact cnvX); exact rfl) | fail)
      all_goals (refine Sat.fin (Sat.end1 rfl rfl rfl True.intro (.refl _ purX) (by first | exact .inl rfl | exact .inr rfl) (fun _ h => h)) ?_; (refine congrArg SV.bool ?_; unfold inB; generalize decide (1 ≤ n) = p1; generalize decide (n ≤ 1) = p2; cases p1 <;> cases p2 <;> rfl))
theorem limits_law (n k : Int) : Fun Tryd.prog [] 9 [.int .i32 n, .int .u8 k] (.bool true) := by
  by_cases h0 : k.tmod 8 = 0
  · exact limits0 n k h0
  by_cases h1 : k.tmod 8 = 1
  · exact limits1 n k h1
  by_cases h2 : k.tmod 8 = 2
  · exact limits2 n k h2
  by_cases h3 : k.tmod 8 = 3
  · exact limits3 n k h3
  by_cases h4 : k.tmod 8 = 4
  · exact limits4 n k h4
  by_cases h5 : k.tmod 8 = 5
  · exact limits5 n k h5
  by_cases h6 : k.tmod 8 = 6
  · exact limits6 n k h6
  refine limits7 n k fun j j0 j7 e => ?_
  rcases (by omega : j = 0 ∨ j = 1 ∨ j = 2 ∨ j = 3 ∨ j = 4 ∨ j = 5 ∨ j = 6) with rfl | rfl | rfl | rfl | rfl | rfl | rfl <;> contradiction
end Go.Proofs.YtegbdcadlmefgaaDoor
end
section
namespace Go.Proofs.YtegbdcadlmefgaaDoor
open Go.RowKit Go.ChangeShapes Go.WideShapes V
set_option maxRecDepth 100000
set_option maxHeartbeats 8000000
theorem metaLimits_step (os : Os) (started : os.Started) (H : Type) (enc : TypeId × Value → H) (F : Stop.Interp) :
    ReturnsInHanded {} Tryd.checked os 9 .any ((OpenSpec.ofChange Rows.metaLimitsSpec).preRow enc Tryd.prog Tryd.f9 Rows.metaLimitsRow.domain false Rows.metaLimitsRow.laid) (((OpenSpec.ofChange Rows.metaLimitsSpec).at F).post enc Tryd.prog Tryd.f9 false true false false) := by
  refine law_step (C := Tryd.checked) (fn := Tryd.f9) (s := OpenSpec.ofChange Rows.metaLimitsSpec) (F := F) (tb := 4) [] own started (by kernel_rfl) Tryd.func9 laidOut (by kernel_rfl) (by kernel_rfl) (by kernel_rfl) Tryd.underlying4 rfl ?_
    (row_witness (World.doorLaid Tryd.prog 300 os) #[.int .i32 0, .int .u8 0] rfl (by kernel_rfl) (by kernel_rfl) (by kernel_rfl) (by kernel_rfl) (by kernel_rfl) (door_met os _)) errs_glob ?_
  · intro ds hl
    obtain ⟨d1, d2, rfl⟩ := list_len2 hl
    rfl
  · intro W vs ds hl ht hk
    obtain ⟨d1, d2, rfl⟩ := list_len2 hl
    exact limits_law (iOf d1) (iOf d2)
theorem metaLimits_said : Rows.MetaLimitsSaid :=
  OpenClaim.holds_of_cond 9 Tryd.f9 rfl rfl rfl rfl rfl rfl rfl ⟨rfl, rfl, rfl, rfl, rfl⟩ rfl rfl rfl rfl rfl (by kernel_rfl) Tryd.func9 (by kernel_rfl)
    (of_decide_eq_true (by kernel_rfl)) (by unfold Func.isWrapper; first | (rw [if_pos (by decide +kernel)]; kernel_rfl) | (rw [if_neg (by decide +kernel)]; exact ⟨rfl, rfl⟩))
    (fun os started H enc _ F => by rw [OpenClaim.pre_eq_preRow]; exact metaLimits_step os started H enc F)
theorem metaLimits_plain (f : FuncId) (fn : Func) (hf : Tryd.pinned.checked.prog.funcNamed "inlay/inlaylaw26.MetaLimits" = some f) (hfn : Tryd.pinned.checked.prog.funcs[f]? = some fn) :
    false = Tryd.pinned.checked.prog.looks [] ∧ ∀ (j : Nat) t, fn.params[j]? = some t → Tryd.pinned.checked.prog.wantsStandIn t = false := by
  obtain rfl : f = 9 := Option.some.inj ((show Tryd.prog.funcNamed "inlay/inlaylaw26.MetaLimits" = some 9 by kernel_rfl).symm.trans hf) |>.symm
  obtain rfl : fn = Tryd.f9 := (Option.some.inj (Tryd.func9.symm.trans hfn)).symm
  refine ⟨by kernel_rfl, fun j t ht => ?_⟩
  have hall : Tryd.f9.params.all (fun t => !(Tryd.prog.wantsStandIn t)) = true := by kernel_rfl
  have := (Array.all_eq_true_iff_forall_mem.1 hall) t (Array.mem_of_getElem? ht)
  have h2 : Tryd.prog.wantsStandIn t = false := by simpa using this
  exact h2
/-- The card. -/
theorem metaLimits_card : Rows.MetaLimitsCardSaid :=
  Claim7.holds_tied_plain_at .later [] _ _ _ _ metaLimits_said (fun _ h => by cases h) (by kernel_rfl) (fun _ h => by cases h) metaLimits_row_tie rfl ⟨rfl, rfl⟩ (by kernel_rfl) rfl metaLimits_plain (by kernel_rfl)
end Go.Proofs.YtegbdcadlmefgaaDoor
end
