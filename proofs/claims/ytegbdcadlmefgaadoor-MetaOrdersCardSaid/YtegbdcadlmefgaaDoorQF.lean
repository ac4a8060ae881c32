/-
  Joined texts: OA: Meta: what is written is read again (MetaRoundTrips); different releases and roots have different bytes (MetaDiffers).
  NZ: Meta: what the rows list (the error value of package bytes), as the door lays it.
  NR: Meta: what the readings of the arguments say, as releases, roots and raw numbers.
  OB: Meta: different releases and roots have different bytes (MetaDiffers).
  OT: Meta: the raw numbers that the readings of the arguments tell.
  Bf: Operations of a region that draws its order, under a guard that is known not to hold; a row that stands in the elements of another is given up.
  OH: Meta: lists that are not strictly increasing, and too many elements (plain).
  OI: Meta: lists that are not strictly increasing, and too many elements, are refused (MetaOrders).
  Z8: The law inlaylaw26.MetaOrders returns true for every input, and each argument reads behind the call as it read before: withdrawn versions, parts, roles and keys of roles that are not strictly increasing, keys that are equal, and too many elements, are refused.
  Conditions: the package variable bytes.ErrTooLarge holds, when the call begins, what the program's text lays there (the card ties it); no other narrowing.
-/
import Derived.Test.YtegbdcadlmefgaaDoorQE
import Derived.Test.YtegbdcadlmefgaaDoorQC
import Derived.Test.YtegbdcadlmefgaaDoorQB
import Derived.Test.YtegbdcadlmefgaaDoorCards
import Derived.Test.YtegbdcadlmefgaaDoorTie
import Derived.Lib.LaidTab
import Derived.MakeChecks
import Derived.Stop.LaidErr
import Derived.SevenTiedAt
section
namespace Go.Proofs.YtegbdcadlmefgaaDoor
open Go.RowKit V
--PURE: (intro _ _; simp [pureL, pureS, pureE]; done)
set_option maxRecDepth 100000
set_option maxHeartbeats 4000000
set_option linter.unusedSimpArgs false
attribute [local irreducible] V.Sat V.DSat
theorem p23 (r : Rel) (hv : validB r = true) (hw : RelW r) : Fun Tryd.prog [] 23 [.ro (.u8 (bytesR r))] (.tup [r.v, .int .i64 0]) := by
  have h := parse_walk (bytesR r)
  rw [(okP_of r hv hw).1, (okP_of r hv hw).2] at h
  exact h
theorem p24 (q : RootL) (hv : rootB q = true) (hw : RootW q) : Fun Tryd.prog [] 24 [.ro (.u8 (bytesQ q))] (.tup [q.v, .int .i64 0]) := by
  have h := parseRoot_walk (bytesQ q)
  rw [(okQ_of q hv hw).1, (okQ_of q hv hw).2] at h
  exact h
theorem p23x (q : RootL) : Fun Tryd.prog [] 23 [.ro (.u8 (bytesQ q))] (.tup [zeroRel.v, .int .i64 260]) := by
  have h := parse_walk (bytesQ q)
  rw [okP_root] at h
  exact h
theorem p24x (r : Rel) : Fun Tryd.prog [] 24 [.ro (.u8 (bytesR r))] (.tup [zeroRoot.v, .int .i64 260]) := by
  have h := parseRoot_walk (bytesR r)
  rw [okQ_rel] at h
  exact h
theorem s25 (r : Rel) : Fun Tryd.prog [] 25 [r.v, r.v] (.bool true) := by
  have h := same_rel r r
  rw [(relEq_iff _ _).2 rfl] at h
  exact h
theorem s26 (q : RootL) : Fun Tryd.prog [] 26 [q.v, q.v] (.bool true) := by
  have h := same_root q q
  rw [(rootEq_iff _ _).2 rfl] at h
  exact h
theorem trips_law (x : RawL) (y : RawQ) : Fun Tryd.prog [] 4 [x.v, y.v] (.bool true) := by
  refine Fun.mkF 7 Tryd.func4 rfl Tryd.ntmps4 rfl rfl fun hf T w0 => ?_
  have g1 := u16_iff hf.1.1
  have g2 := u16_iff hf.2.1.1
  have m1 := made_walk x (by omega)
  have m2 := madeRoot_walk y
  have hv := madeR_valid x
  have hw := madeR_wf x
  have hv2 := madeQ_valid y (by omega)
  have hw2 := madeQ_wf y
  generalize madeR x = r at *
  generalize madeQ y = q at *
  have b1 := bytes_spec r hv
  have c1 := rootBytes_spec q hv2
  have a1 := p23 r hv hw
  have a2 := p24 q hv2 hw2
  have a3 := p23x q
  have a4 := p24x r
  have v1 := valid_spec r
  rw [hv] at v1
  have v2 := validRoot_spec q
  rw [hv2] at v2
  have s1 := s25 r
  have s2 := s26 q
  repeat' (first
      | ((with_reducible apply Sat.run (X := X64)); exact rfl; (first | exact True.intro | (exact phi) | skip))
      | ((with_reducible apply Sat.drawn); kernel_rfl)
      | ((with_reducible apply DSat.run (X := X64)); exact rfl; (first | exact True.intro | (exact phi) | skip))
      | ((with_reducible apply DSat.fin); kernel_rfl)
      | ((with_reducible apply Sat.cond_t); exact rfl)
      | ((with_reducible apply Sat.cond_f); exact rfl)
      | ((with_reducible apply Sat.cond_pt); exact rfl; (try dsimp only [V.EV.sub, V.EV.len]); first | assumption | omega)
      | ((with_reducible apply Sat.cond_pf); exact rfl; (try dsimp only [V.EV.sub, V.EV.len]); first | assumption | omega)
      | ((with_reducible apply Sat.cond_p); exact rfl; all_goals intro h)
      | ((with_reducible apply Sat.cond); exact rfl; all_goals intro h)
      | ((with_reducible apply Sat.gon); exact rfl; first | exact rfl | (decide +kernel))
      | ((with_reducible apply Sat.call0 (sanity_law)); exact rfl; exact rfl; kernel_rfl; exact rfl)
      | ((with_reducible apply DSat.call0 (sanity_law)); exact rfl; exact rfl; kernel_rfl; exact rfl)
      | ((with_reducible apply DSat.callM0 (sanity_law)); exact rfl; exact rfl; (first | exact rfl | assumption | (decide +kernel)); exact rfl; kernel_rfl; exact rfl)
      | ((with_reducible apply Sat.call (m1)); exact rfl; exact rfl; kernel_rfl; (exact cnvX); exact rfl)
      | ((with_reducible apply DSat.call (m1)); exact rfl; exact rfl; kernel_rfl; (exact cnvX); exact rfl)
      | ((with_reducible apply Sat.call (m2)); exact rfl; exact rfl; kernel_rfl; (exact cnvX); exact rfl)
      | ((with_reducible apply DSat.call (m2)); exact rfl; exact rfl; kernel_rfl; (exact cnvX); exact rfl)
      | ((with_reducible apply Sat.call (b1)); exact rfl; exact rfl; kernel_rfl; (exact cnvX); exact rfl)
      | ((with_reducible apply DSat.call (b1)); exact rfl; exact rfl; kernel_rfl; (exact cnvX); exact rfl)
      | ((with_reducible apply Sat.call (c1)); exact rfl; exact rfl; kernel_rfl; (exact cnvX); exact rfl)
      | ((with_reducible apply DSat.call (c1)); exact rfl; exact rfl; kernel_rfl; (exact cnvX); exact rfl)
      | ((with_reducible apply Sat.call (a1)); exact rfl; exact rfl; kernel_rfl; (exact cnvX); exact rfl)
      | ((with_reducible apply DSat.call (a1)); exact rfl; exact rfl; kernel_rfl; (exact cnvX); exact rfl)
      | ((with_reducible apply Sat.call (a2)); exact rfl; exact rfl; kernel_rfl; (exact cnvX); exact rfl)
      | ((with_reducible apply DSat.call (a2)); exact rfl; exact rfl; kernel_rfl; (exact cnvX); exact rfl)
      | ((with_reducible apply Sat.call (a3)); exact rfl; exact rfl; kernel_rfl; (exact cnvX); exact rfl)
      | ((with_reducible apply DSat.call (a3)); exact rfl; exact rfl; kernel_rfl; (exact cnvX); exact rfl)
      | ((with_reducible apply Sat.call (a4)); exact rfl; exact rfl; kernel_rfl; (exact cnvX); exact rfl)
      | ((with_reducible apply DSat.call (a4)); exact rfl; exact rfl; kernel_rfl; (exact cnvX); exact rfl)
      | ((with_reducible apply Sat.callR (v1)); exact rfl; exact rfl; exact rfl; kernel_rfl; (exact cnvX); exact rfl)
      | ((with_reducible apply DSat.callR (v1)); exact rfl; exact rfl; exact rfl; kernel_rfl; (exact cnvX); exact rfl)
      | ((with_reducible apply Sat.callR (v2)); exact rfl; exact rfl; exact rfl; kernel_rfl; (exact cnvX); exact rfl)
      | ((with_reducible apply DSat.callR (v2)); exact rfl; exact rfl; exact rfl; kernel_rfl; (exact cnvX); exact rfl)
      | ((with_reducible apply Sat.callG1 (v2)); exact rfl; exact rfl; exact rfl; exact rfl; kernel_rfl; (intro hG; (exact cnvX)); exact rfl)
      | ((with_reducible apply DSat.callG1 (v2)); exact rfl; exact rfl; exact rfl; exact rfl; kernel_rfl; (intro hG; (exact cnvX)); exact rfl)
      | ((with_reducible apply Sat.callG1 (s1)); exact rfl; exact rfl; exact rfl; exact rfl; kernel_rfl; (intro hG; (exact cnvX)); exact rfl)
      | ((with_reducible apply DSat.callG1 (s1)); exact rfl; exact rfl; exact rfl; exact rfl; kernel_rfl; (intro hG; (exact cnvX)); exact rfl)
      | ((with_reducible apply Sat.callG1 (s2)); exact rfl; exact rfl; exact rfl; exact rfl; kernel_rfl; (intro hG; (exact cnvX)); exact rfl)
      | ((with_reducible apply DSat.callG1 (s2)); exact rfl; exact rfl; exact rfl; exact rfl; kernel_rfl; (intro hG; (exact cnvX)); exact rfl)
      | ((with_reducible apply Sat.callR (s1)); exact rfl; exact rfl; exact rfl; kernel_rfl; (exact cnvX); exact rfl)
      | ((with_reducible apply DSat.callR (s1)); exact rfl; exact rfl; exact rfl; kernel_rfl; (exact cnvX); exact rfl)
      | ((with_reducible apply Sat.callR (s2)); exact rfl; exact rfl; exact rfl; kernel_rfl; (exact cnvX); exact rfl)
      | ((with_reducible apply DSat.callR (s2)); exact rfl; exact rfl; exact rfl; kernel_rfl; (exact cnvX); exact rfl) | fail)
  all_goals (refine Sat.fin (Sat.end1 rfl rfl rfl True.intro (.refl _ purX) (by first | exact .inl rfl | exact .inr rfl) (fun _ h => h)) ?_; (first | exact rfl | exact congrArg SV.bool (by decide +kernel)))
end Go.Proofs.YtegbdcadlmefgaaDoor
end
section
namespace Go.Proofs.YtegbdcadlmefgaaDoor
open Go.RowKit Go.ChangeShapes Go.WideShapes V
set_option maxRecDepth 100000
theorem own : ownKnob Tryd.prog.godebug = none := by kernel_rfl
theorem laidOut : laidOutB Tryd.prog = true := by kernel_rfl
def errs_laid : List (String × DataW Unit) := [("bytes.ErrTooLarge", Rows.laid_bytes_ErrTooLarge)]
theorem errs_glob (W : World) (_ : laidMetH Tryd.prog errs_laid W) : GOk [] (fun _ => False) W := glob_nil
theorem door_met (os : Os) (args : Array Value) : laidMetH Tryd.prog errs_laid ((World.doorLaid Tryd.prog 300 os).forCall (fun _ _ => 0) ⟨#[], args, []⟩).memory :=
  laidMetH_of_parts3 (fuel := 8) (laidMet_of_run' 8 (by kernel_rfl) (by kernel_rfl)) (by kernel_rfl) (by kernel_rfl)
end Go.Proofs.YtegbdcadlmefgaaDoor
end
section
namespace Go.Proofs.YtegbdcadlmefgaaDoor
open Go.RowKit V
set_option maxRecDepth 100000
variable {H : Type}
theorem map_nthD {α : Type} (f : DataW H → α) : ∀ (l : List (DataW H)) (i : Nat), (l.map f).getD i (f .nil) = f (nthD l i)
  | [], i => rfl
  | x :: r, 0 => rfl
  | x :: r, i + 1 => by
    simp only [List.map_cons, List.getD_cons_succ, nthD]
    exact map_nthD f r i
def partD (d : DataW H) : PartL := ⟨sOf (nthD (ptsD d) 0), (ptsD (nthD (ptsD d) 1)).map u8Of⟩
def keyD (d : DataW H) : List UInt8 := (ptsD d).map u8Of
def roleD (d : DataW H) : RoleL := ⟨sOf (nthD (ptsD d) 0), (eOf (nthD (ptsD d) 1)).map iOf, iOf (nthD (ptsD d) 2)⟩
def relD (d : DataW H) : Rel := ⟨iOf (nthD (ptsD d) 0), iOf (nthD (ptsD d) 1), iOf (nthD (ptsD d) 2), iOf (nthD (ptsD d) 3), (ptsD (nthD (ptsD d) 4)).map u8Of, iOf (nthD (ptsD d) 5), (ptsD (nthD (ptsD d) 6)).map u8Of, (eOf (nthD (ptsD d) 7)).map iOf, (eOf (nthD (ptsD d) 8)).map partD⟩
def rootD (d : DataW H) : RootL := ⟨iOf (nthD (ptsD d) 0), iOf (nthD (ptsD d) 1), (eOf (nthD (ptsD d) 2)).map keyD, (eOf (nthD (ptsD d) 3)).map roleD⟩
theorem partsD_eq (l : List (DataW H)) : partsE (l.map partD) = .g l.length 33 fun i => [.str (sOf (nthD (ptsD (nthD l i)) 0)), .arr 32 (.u8 ((ptsD (nthD (ptsD (nthD l i)) 1)).map u8Of))] := by
  show EV.g _ _ _ = _
  rw [List.length_map]
  congr 1
  funext i
  have h : (l.map partD).getD i part0 = partD (nthD l i) := map_nthD partD l i
  rw [h]
  rfl
theorem keysD_eq (l : List (DataW H)) : keysE (l.map keyD) = .g l.length 32 fun i => [.arr 32 (.u8 ((ptsD (nthD l i)).map u8Of))] := by
  show EV.g _ _ _ = _
  rw [List.length_map]
  congr 1
  funext i
  have h : (l.map keyD).getD i [] = keyD (nthD l i) := map_nthD keyD l i
  rw [h]
  rfl
theorem rolesD_eq (l : List (DataW H)) : rolesE (l.map roleD) = .g l.length 3 fun i => [.str (sOf (nthD (ptsD (nthD l i)) 0)), .ro (.ints .i64 ((eOf (nthD (ptsD (nthD l i)) 1)).map iOf)), .int .i64 (iOf (nthD (ptsD (nthD l i)) 2))] := by
  show EV.g _ _ _ = _
  rw [List.length_map]
  congr 1
  funext i
  have h : (l.map roleD).getD i role0 = roleD (nthD l i) := map_nthD roleD l i
  rw [h]
  rfl
theorem relD_v (d : DataW H) : (relD d).v = .agg [.int .i64 (iOf (nthD (ptsD d) 0)), .int .i64 (iOf (nthD (ptsD d) 1)), .int .i64 (iOf (nthD (ptsD d) 2)), .int .i64 (iOf (nthD (ptsD d) 3)), .arr 32 (.u8 ((ptsD (nthD (ptsD d) 4)).map u8Of)), .int .i64 (iOf (nthD (ptsD d) 5)), .arr 32 (.u8 ((ptsD (nthD (ptsD d) 6)).map u8Of)), .ro (.ints .i64 ((eOf (nthD (ptsD d) 7)).map iOf)),
    .ro (.g (eOf (nthD (ptsD d) 8)).length 33 fun i => [.str (sOf (nthD (ptsD (nthD (eOf (nthD (ptsD d) 8)) i)) 0)), .arr 32 (.u8 ((ptsD (nthD (ptsD (nthD (eOf (nthD (ptsD d) 8)) i)) 1)).map u8Of))])] := by
  rw [← partsD_eq]
  rfl
theorem rootD_v (d : DataW H) : (rootD d).v = .agg [.int .i64 (iOf (nthD (ptsD d) 0)), .int .i64 (iOf (nthD (ptsD d) 1)), .ro (.g (eOf (nthD (ptsD d) 2)).length 32 fun i => [.arr 32 (.u8 ((ptsD (nthD (eOf (nthD (ptsD d) 2)) i)).map u8Of))]),
    .ro (.g (eOf (nthD (ptsD d) 3)).length 3 fun i => [.str (sOf (nthD (ptsD (nthD (eOf (nthD (ptsD d) 3)) i)) 0)), .ro (.ints .i64 ((eOf (nthD (ptsD (nthD (eOf (nthD (ptsD d) 3)) i)) 1)).map iOf)), .int .i64 (iOf (nthD (ptsD (nthD (eOf (nthD (ptsD d) 3)) i)) 2))])] := by
  rw [← keysD_eq, ← rolesD_eq]
  rfl
end Go.Proofs.YtegbdcadlmefgaaDoor
end
section
namespace Go.Proofs.YtegbdcadlmefgaaDoor
open Go.RowKit V
--PURE: (intro _ _; simp [pureL, pureS, pureE]; done)
set_option maxRecDepth 100000
set_option maxHeartbeats 4000000
set_option linter.unusedSimpArgs false
attribute [local irreducible] V.Sat V.DSat
def RawL.l (x : RawL) : List SV := [.int .u16 (x.version : Int), .int .u16 (x.floor : Int), .int .u32 (x.expiry : Int), .int .u32 (x.size : Int), .int .u8 (x.s0.toNat : Int), .int .u8 (x.s1.toNat : Int), .ro (.u8 x.gone), .ro (.u8 x.parts)]
def RawQ.l (x : RawQ) : List SV := [.int .u16 (x.gen : Int), .int .u32 (x.expiry : Int), .ro (.u8 x.keys), .ro (rawRoles x.roles)]
theorem same_bytes (r q : Rel) (hv : validB r = true) (hw : RelW r) (hv' : validB q = true) (hw' : RelW q) : Fun Tryd.prog [] 14 [.ro (.u8 (bytesR r)), .ro (.u8 (bytesR q))] (.bool (relEq r q)) := by
  have h := same_ref (bytesR r) (bytesR q)
  rw [show decide (bytesR r = bytesR q) = relEq r q from ?_] at h
  · exact h
  · cases he : relEq r q with
    | true => rw [(relEq_iff r q).1 he]; exact decide_eq_true rfl
    | false =>
      refine decide_eq_false fun hb => ?_
      rw [(relEq_iff r q).2 (bytesR_inj hv hw hv' hw' hb)] at he
      cases he
theorem same_bytesQ (r q : RootL) (hv : rootB r = true) (hw : RootW r) (hv' : rootB q = true) (hw' : RootW q) : Fun Tryd.prog [] 14 [.ro (.u8 (bytesQ r)), .ro (.u8 (bytesQ q))] (.bool (rootEq r q)) := by
  have h := same_ref (bytesQ r) (bytesQ q)
  rw [show decide (bytesQ r = bytesQ q) = rootEq r q from ?_] at h
  · exact h
  · cases he : rootEq r q with
    | true => rw [(rootEq_iff r q).1 he]; exact decide_eq_true rfl
    | false =>
      refine decide_eq_false fun hb => ?_
      rw [(rootEq_iff r q).2 (bytesQ_inj hv hw hv' hw' hb)] at he
      cases he
theorem differs_law (x1 x2 : RawL) (y1 y2 : RawQ) : Fun Tryd.prog [] 7 [.agg (x1.l ++ x2.l), .agg (y1.l ++ y2.l)] (.bool true) := by
  unfold RawL.l RawQ.l
  dsimp only [List.cons_append, List.nil_append]
  refine Fun.mkF 7 Tryd.func7 rfl Tryd.ntmps7 rfl rfl fun hf T w0 => ?_
  have f1 := u16_iff hf.1.1
  have f2 := u16_iff hf.1.2.2.2.2.2.2.2.2.1
  have f3 := u16_iff hf.2.1.1
  have f4 := u16_iff hf.2.1.2.2.2.2.1
  have m1 := made_walk x1 (by omega)
  have m2 := made_walk x2 (by omega)
  have m3 := madeRoot_walk y1
  have m4 := madeRoot_walk y2
  have v1 := madeR_valid x1
  have w1 := madeR_wf x1
  have v2 := madeR_valid x2
  have w2 := madeR_wf x2
  have v3 := madeQ_valid y1 (by omega)
  have w3 := madeQ_wf y1
  have v4 := madeQ_valid y2 (by omega)
  have w4 := madeQ_wf y2
  generalize madeR x1 = r1 at *
  generalize madeR x2 = r2 at *
  generalize madeQ y1 = q1 at *
  generalize madeQ y2 = q2 at *
  have b1 := bytes_spec r1 v1
  have b2 := bytes_spec r2 v2
  have b3 := rootBytes_spec q1 v3
  have b4 := rootBytes_spec q2 v4
  have e1 := same_bytes r1 r2 v1 w1 v2 w2
  have e2 := same_bytesQ q1 q2 v3 w3 v4 w4
  have s1 := same_rel r1 r2
  have s2 := same_root q1 q2
  generalize relEq r1 r2 = z1 at *
  generalize rootEq q1 q2 = z2 at *
  rcases z1 with _ | _ <;> rcases z2 with _ | _
  · repeat' (first
        | ((with_reducible apply Sat.run (X := X64)); exact rfl; (first | exact True.intro | (exact phi) | skip))
        | ((with_reducible apply Sat.drawn); kernel_rfl)
        | ((with_reducible apply DSat.run (X := X64)); exact rfl; (first | exact True.intro | (exact phi) | skip))
        | ((with_reducible apply DSat.fin); kernel_rfl)
        | ((with_reducible apply Sat.cond_t); exact rfl)
        | ((with_reducible apply Sat.cond_f); exact rfl)
        | ((with_reducible apply Sat.cond_pt); exact rfl; (try dsimp only [V.EV.sub, V.EV.len]); first | assumption | omega)
        | ((with_reducible apply Sat.cond_pf); exact rfl; (try dsimp only [V.EV.sub, V.EV.len]); first | assumption | omega)
        | ((with_reducible apply Sat.cond_p); exact rfl; all_goals intro h)
        | ((with_reducible apply Sat.cond); exact rfl; all_goals intro h)
        | ((with_reducible apply Sat.gon); exact rfl; first | exact rfl | (decide +kernel))
        | ((with_reducible apply Sat.call0 (sanity_law)); exact rfl; exact rfl; kernel_rfl; exact rfl)
        | ((with_reducible apply DSat.call0 (sanity_law)); exact rfl; exact rfl; kernel_rfl; exact rfl)
        | ((with_reducible apply DSat.callM0 (sanity_law)); exact rfl; exact rfl; (first | exact rfl | assumption | (decide +kernel)); exact rfl; kernel_rfl; exact rfl)
        | ((with_reducible apply Sat.call (m1)); exact rfl; exact rfl; kernel_rfl; (exact cnvX); exact rfl)
        | ((with_reducible apply DSat.call (m1)); exact rfl; exact rfl; kernel_rfl; (exact cnvX); exact rfl)
        | ((with_reducible apply Sat.call (m2)); exact rfl; exact rfl; kernel_rfl; (exact cnvX); exact rfl)
        | ((with_reducible apply DSat.call (m2)); exact rfl; exact rfl; kernel_rfl; (exact cnvX); exact rfl)
        | ((with_reducible apply Sat.call (m3)); exact rfl; exact rfl; kernel_rfl; (exact cnvX); exact rfl)
        | ((with_reducible apply DSat.call (m3)); exact rfl; exact rfl; kernel_rfl; (exact cnvX); exact rfl)
        | ((with_reducible apply Sat.call (m4)); exact rfl; exact rfl; kernel_rfl; (exact cnvX); exact rfl)
        | ((with_reducible apply DSat.call (m4)); exact rfl; exact rfl; kernel_rfl; (exact cnvX); exact rfl)
        | ((with_reducible apply Sat.call (b1)); exact rfl; exact rfl; kernel_rfl; (exact cnvX); exact rfl)
        | ((with_reducible apply DSat.call (b1)); exact rfl; exact rfl; kernel_rfl; (exact cnvX); exact rfl)
        | ((with_reducible apply Sat.call (b2)); exact rfl; exact rfl; kernel_rfl; (exact cnvX); exact rfl)
        | ((with_reducible apply DSat.call (b2)); exact rfl; exact rfl; kernel_rfl; (exact cnvX); exact rfl)
        | ((with_reducible apply Sat.call (b3)); exact rfl; exact rfl; kernel_rfl; (exact cnvX); exact rfl)
        | ((with_reducible apply DSat.call (b3)); exact rfl; exact rfl; kernel_rfl; (exact cnvX); exact rfl)
        | ((with_reducible apply Sat.call (b4)); exact rfl; exact rfl; kernel_rfl; (exact cnvX); exact rfl)
        | ((with_reducible apply DSat.call (b4)); exact rfl; exact rfl; kernel_rfl; (exact cnvX); exact rfl)
        | ((with_reducible apply Sat.callR (e1)); exact rfl; exact rfl; exact rfl; kernel_rfl; (exact cnvX); exact rfl)
        | ((with_reducible apply DSat.callR (e1)); exact rfl; exact rfl; exact rfl; kernel_rfl; (exact cnvX); exact rfl)
        | ((with_reducible apply Sat.callR (e2)); exact rfl; exact rfl; exact rfl; kernel_rfl; (exact cnvX); exact rfl)
        | ((with_reducible apply DSat.callR (e2)); exact rfl; exact rfl; exact rfl; kernel_rfl; (exact cnvX); exact rfl)
        | ((with_reducible apply Sat.callR (s1)); exact rfl; exact rfl; exact rfl; kernel_rfl; (exact cnvX); exact rfl)
        | ((with_reducible apply DSat.callR (s1)); exact rfl; exact rfl; exact rfl; kernel_rfl; (exact cnvX); exact rfl)
        | ((with_reducible apply Sat.callR (s2)); exact rfl; exact rfl; exact rfl; kernel_rfl; (exact cnvX); exact rfl)
        | ((with_reducible apply DSat.callR (s2)); exact rfl; exact rfl; exact rfl; kernel_rfl; (exact cnvX); exact rfl)
        | ((with_reducible apply DSat.callM (b3)); exact rfl; exact rfl; (first | exact rfl | assumption | (decide +kernel)); exact rfl; kernel_rfl; (exact cnvX); exact rfl)
        | ((with_reducible apply DSat.callM (b4)); exact rfl; exact rfl; (first | exact rfl | assumption | (decide +kernel)); exact rfl; kernel_rfl; (exact cnvX); exact rfl)
        | ((with_reducible apply Sat.callG1 (e2)); exact rfl; exact rfl; exact rfl; exact rfl; kernel_rfl; (intro hG; (exact cnvX)); exact rfl)
        | ((with_reducible apply DSat.callG1 (e2)); exact rfl; exact rfl; exact rfl; exact rfl; kernel_rfl; (intro hG; (exact cnvX)); exact rfl)
        | ((with_reducible apply Sat.callG1 (s2)); exact rfl; exact rfl; exact rfl; exact rfl; kernel_rfl; (intro hG; (exact cnvX)); exact rfl)
        | ((with_reducible apply DSat.callG1 (s2)); exact rfl; exact rfl; exact rfl; exact rfl; kernel_rfl; (intro hG; (exact cnvX)); exact rfl) | fail)
    all_goals (refine Sat.fin (Sat.end1 rfl rfl rfl True.intro (.refl _ purX) (by first | exact .inl rfl | exact .inr rfl) (fun _ h => h)) ?_; (first | exact rfl | exact congrArg SV.bool (by decide +kernel)))
  · repeat' (first
        | ((with_reducible apply Sat.run (X := X64)); exact rfl; (first | exact True.intro | (exact phi) | skip))
        | ((with_reducible apply Sat.drawn); kernel_rfl)
        | ((with_reducible apply DSat.run (X := X64)); exact rfl; (first | exact True.intro | (exact phi) | skip))
        | ((with_reducible apply DSat.fin); kernel_rfl)
        | ((with_reducible apply Sat.cond_t); exact rfl)
        | ((with_reducible apply Sat.cond_f); exact rfl)
        | ((with_reducible apply Sat.cond_pt); exact rfl; (try dsimp only [V.EV.sub, V.EV.len]); first | assumption | omega)
        | ((with_reducible apply Sat.cond_pf); exact rfl; (try dsimp only [V.EV.sub, V.EV.len]); first | assumption | omega)
        | ((with_reducible apply Sat.cond_p); exact rfl; all_goals intro h)
        | ((with_reducible apply Sat.cond); exact rfl; all_goals intro h)
        | ((with_reducible apply Sat.gon); exact rfl; first | exact rfl | (decide +kernel))
        | ((with_reducible apply Sat.call0 (sanity_law)); exact rfl; exact rfl; kernel_rfl; exact rfl)
        | ((with_reducible apply DSat.call0 (sanity_law)); exact rfl; exact rfl; kernel_rfl; exact rfl)
        | ((with_reducible apply DSat.callM0 (sanity_law)); exact rfl; exact rfl; (first | exact rfl | assumption | (decide +kernel)); exact rfl; kernel_rfl; exact rfl)
        | ((with_reducible apply Sat.call (m1)); exact rfl; exact rfl; kernel_rfl; (exact cnvX); exact rfl)
        | ((with_reducible apply DSat.call (m1)); exact rfl; exact rfl; kernel_rfl; (exact cnvX); exact rfl)
        | ((with_reducible apply Sat.call (m2)); exact rfl; exact rfl; kernel_rfl; (exact cnvX); exact rfl)
        | ((with_reducible apply DSat.call (m2)); exact rfl; exact rfl; kernel_rfl; (exact cnvX); exact rfl)
        | ((with_reducible apply Sat.call (m3)); exact rfl; exact rfl; kernel_rfl; (exact cnvX); exact rfl)
        | ((with_reducible apply DSat.call (m3)); exact rfl; exact rfl; kernel_rfl; (exact cnvX); exact rfl)
        | ((with_reducible apply Sat.call (m4)); exact rfl; exact rfl; kernel_rfl; (exact cnvX); exact rfl)
        | ((with_reducible apply DSat.call (m4)); exact rfl; exact rfl; kernel_rfl; (exact cnvX); exact rfl)
        | ((with_reducible apply Sat.call (b1)); exact rfl; exact rfl; kernel_rfl; (exact cnvX); exact rfl)
        | ((with_reducible apply DSat.call (b1)); exact rfl; exact rfl; kernel_rfl; (exact cnvX); exact rfl)
        | ((with_reducible apply Sat.call (b2)); exact rfl; exact rfl; kernel_rfl; (exact cnvX); exact rfl)
        | ((with_reducible apply DSat.call (b2)); exact rfl; exact rfl; kernel_rfl; (exact cnvX); exact rfl)
        | ((with_reducible apply Sat.call (b3)); exact rfl; exact rfl; kernel_rfl; (exact cnvX); exact rfl)
        | ((with_reducible apply DSat.call (b3)); exact rfl; exact rfl; kernel_rfl; (exact cnvX); exact rfl)
        | ((with_reducible apply Sat.call (b4)); exact rfl; exact rfl; kernel_rfl; (exact cnvX); exact rfl)
        | ((with_reducible apply DSat.call (b4)); exact rfl; exact rfl; kernel_rfl; (exact cnvX); exact rfl)
        | ((with_reducible apply Sat.callR (e1)); exact rfl; exact rfl; exact rfl; kernel_rfl; (exact cnvX); exact rfl)
        | ((with_reducible apply DSat.callR (e1)); exact rfl; exact rfl; exact rfl; kernel_rfl; (exact cnvX); exact rfl)
        | ((with_reducible apply Sat.callR (e2)); exact rfl; exact rfl; exact rfl; kernel_rfl; (exact cnvX); exact rfl)
        | ((with_reducible apply DSat.callR (e2)); exact rfl; exact rfl; exact rfl; kernel_rfl; (exact cnvX); exact rfl)
        | ((with_reducible apply Sat.callR (s1)); exact rfl; exact rfl; exact rfl; kernel_rfl; (exact cnvX); exact rfl)
        | ((with_reducible apply DSat.callR (s1)); exact rfl; exact rfl; exact rfl; kernel_rfl; (exact cnvX); exact rfl)
        | ((with_reducible apply Sat.callR (s2)); exact rfl; exact rfl; exact rfl; kernel_rfl; (exact cnvX); exact rfl)
        | ((with_reducible apply DSat.callR (s2)); exact rfl; exact rfl; exact rfl; kernel_rfl; (exact cnvX); exact rfl)
        | ((with_reducible apply DSat.callM (b3)); exact rfl; exact rfl; (first | exact rfl | assumption | (decide +kernel)); exact rfl; kernel_rfl; (exact cnvX); exact rfl)
        | ((with_reducible apply DSat.callM (b4)); exact rfl; exact rfl; (first | exact rfl | assumption | (decide +kernel)); exact rfl; kernel_rfl; (exact cnvX); exact rfl)
        | ((with_reducible apply Sat.callG1 (e2)); exact rfl; exact rfl; exact rfl; exact rfl; kernel_rfl; (intro hG; (exact cnvX)); exact rfl)
        | ((with_reducible apply DSat.callG1 (e2)); exact rfl; exact rfl; exact rfl; exact rfl; kernel_rfl; (intro hG; (exact cnvX)); exact rfl)
        | ((with_reducible apply Sat.callG1 (s2)); exact rfl; exact rfl; exact rfl; exact rfl; kernel_rfl; (intro hG; (exact cnvX)); exact rfl)
        | ((with_reducible apply DSat.callG1 (s2)); exact rfl; exact rfl; exact rfl; exact rfl; kernel_rfl; (intro hG; (exact cnvX)); exact rfl) | fail)
    all_goals (refine Sat.fin (Sat.end1 rfl rfl rfl True.intro (.refl _ purX) (by first | exact .inl rfl | exact .inr rfl) (fun _ h => h)) ?_; (first | exact rfl | exact congrArg SV.bool (by decide +kernel)))
  · repeat' (first
        | ((with_reducible apply Sat.run (X := X64)); exact rfl; (first | exact True.intro | (exact phi) | skip))
        | ((with_reducible apply Sat.drawn); kernel_rfl)
        | ((with_reducible apply DSat.run (X := X64)); exact rfl; (first | exact True.intro | (exact phi) | skip))
        | ((with_reducible apply DSat.fin); kernel_rfl)
        | ((with_reducible apply Sat.cond_t); exact rfl)
        | ((with_reducible apply Sat.cond_f); exact rfl)
        | ((with_reducible apply Sat.cond_pt); exact rfl; (try dsimp only [V.EV.sub, V.EV.len]); first | assumption | omega)
        | ((with_reducible apply Sat.cond_pf); exact rfl; (try dsimp only [V.EV.sub, V.EV.len]); first | assumption | omega)
        | ((with_reducible apply Sat.cond_p); exact rfl; all_goals intro h)
        | ((with_reducible apply Sat.cond); exact rfl; all_goals intro h)
        | ((with_reducible apply Sat.gon); exact rfl; first | exact rfl | (decide +kernel))
        | ((with_reducible apply Sat.call0 (sanity_law)); exact rfl; exact rfl; kernel_rfl; exact rfl)
        | ((with_reducible apply DSat.call0 (sanity_law)); exact rfl; exact rfl; kernel_rfl; exact rfl)
        | ((with_reducible apply DSat.callM0 (sanity_law)); exact rfl; exact rfl; (first | exact rfl | assumption | (decide +kernel)); exact rfl; kernel_rfl; exact rfl)
        | ((with_reducible apply Sat.call (m1)); exact rfl; exact rfl; kernel_rfl; (exact cnvX); exact rfl)
        | ((with_reducible apply DSat.call (m1)); exact rfl; exact rfl; kernel_rfl; (exact cnvX); exact rfl)
        | ((with_reducible apply Sat.call (m2)); exact rfl; exact rfl; kernel_rfl; (exact cnvX); exact rfl)
        | ((with_reducible apply DSat.call (m2)); exact rfl; exact rfl; kernel_rfl; (exact cnvX); exact rfl)
        | ((with_reducible apply Sat.call (m3)); exact rfl; exact rfl; kernel_rfl; (exact cnvX); exact rfl)
        | ((with_reducible apply DSat.call (m3)); exact rfl; exact rfl; kernel_rfl; (exact cnvX); exact rfl)
        | ((with_reducible apply Sat.call (m4)); exact rfl; exact rfl; kernel_rfl; (exact cnvX); exact rfl)
        | ((with_reducible apply DSat.call (m4)); exact rfl; exact rfl; kernel_rfl; (exact cnvX); exact rfl)
        | ((with_reducible apply Sat.call (b1)); exact rfl; exact rfl; kernel_rfl; (exact cnvX); exact rfl)
        | ((with_reducible apply DSat.call (b1)); exact rfl; exact rfl; kernel_rfl; (exact cnvX); exact rfl)
        | ((with_reducible apply Sat.call (b2)); exact rfl; exact rfl; kernel_rfl; (exact cnvX); exact rfl)
        | ((with_reducible apply DSat.call (b2)); exact rfl; exact rfl; kernel_rfl; (exact cnvX); exact rfl)
        | ((with_reducible apply Sat.call (b3)); exact rfl; exact rfl; kernel_rfl; (exact cnvX); exact rfl)
        | ((with_reducible apply DSat.call (b3)); exact rfl; exact rfl; kernel_rfl; (exact cnvX); exact rfl)
        | ((with_reducible apply Sat.call (b4)); exact rfl; exact rfl; kernel_rfl; (exact cnvX); exact rfl)
        | ((with_reducible apply DSat.call (b4)); exact rfl; exact rfl; kernel_rfl; (exact cnvX); exact rfl)
        | ((with_reducible apply Sat.callR (e1)); exact rfl; exact rfl; exact rfl; kernel_rfl; (exact cnvX); exact rfl)
        | ((with_reducible apply DSat.callR (e1)); exact rfl; exact rfl; exact rfl; kernel_rfl; (exact cnvX); exact rfl)
        | ((with_reducible apply Sat.callR (e2)); exact rfl; exact rfl; exact rfl; kernel_rfl; (exact cnvX); exact rfl)
        | ((with_reducible apply DSat.callR (e2)); exact rfl; exact rfl; exact rfl; kernel_rfl; (exact cnvX); exact rfl)
        | ((with_reducible apply Sat.callR (s1)); exact rfl; exact rfl; exact rfl; kernel_rfl; (exact cnvX); exact rfl)
        | ((with_reducible apply DSat.callR (s1)); exact rfl; exact rfl; exact rfl; kernel_rfl; (exact cnvX); exact rfl)
        | ((with_reducible apply Sat.callR (s2)); exact rfl; exact rfl; exact rfl; kernel_rfl; (exact cnvX); exact rfl)
        | ((with_reducible apply DSat.callR (s2)); exact rfl; exact rfl; exact rfl; kernel_rfl; (exact cnvX); exact rfl)
        | ((with_reducible apply DSat.callM (b3)); exact rfl; exact rfl; (first | exact rfl | assumption | (decide +kernel)); exact rfl; kernel_rfl; (exact cnvX); exact rfl)
        | ((with_reducible apply DSat.callM (b4)); exact rfl; exact rfl; (first | exact rfl | assumption | (decide +kernel)); exact rfl; kernel_rfl; (exact cnvX); exact rfl)
        | ((with_reducible apply Sat.callG1 (e2)); exact rfl; exact rfl; exact rfl; exact rfl; kernel_rfl; (intro hG; (exact cnvX)); exact rfl)
        | ((with_reducible apply DSat.callG1 (e2)); exact rfl; exact rfl; exact rfl; exact rfl; kernel_rfl; (intro hG; (exact cnvX)); exact rfl)
        | ((with_reducible apply Sat.callG1 (s2)); exact rfl; exact rfl; exact rfl; exact rfl; kernel_rfl; (intro hG; (exact cnvX)); exact rfl)
        | ((with_reducible apply DSat.callG1 (s2)); exact rfl; exact rfl; exact rfl; exact rfl; kernel_rfl; (intro hG; (exact cnvX)); exact rfl) | fail)
    all_goals (refine Sat.fin (Sat.end1 rfl rfl rfl True.intro (.refl _ purX) (by first | exact .inl rfl | exact .inr rfl) (fun _ h => h)) ?_; (first | exact rfl | exact congrArg SV.bool (by decide +kernel)))
  · repeat' (first
        | ((with_reducible apply Sat.run (X := X64)); exact rfl; (first | exact True.intro | (exact phi) | skip))
        | ((with_reducible apply Sat.drawn); kernel_rfl)
        | ((with_reducible apply DSat.run (X := X64)); exact rfl; (first | exact True.intro | (exact phi) | skip))
        | ((with_reducible apply DSat.fin); kernel_rfl)
        | ((with_reducible apply Sat.cond_t); exact rfl)
        | ((with_reducible apply Sat.cond_f); exact rfl)
        | ((with_reducible apply Sat.cond_pt); exact rfl; (try dsimp only [V.EV.sub, V.EV.len]); first | assumption | omega)
        | ((with_reducible apply Sat.cond_pf); exact rfl; (try dsimp only [V.EV.sub, V.EV.len]); first | assumption | omega)
        | ((with_reducible apply Sat.cond_p); exact rfl; all_goals intro h)
        | ((with_reducible apply Sat.cond); exact rfl; all_goals intro h)
        | ((with_reducible apply Sat.gon); exact rfl; first | exact rfl | (decide +kernel))
        | ((with_reducible apply Sat.call0 (sanity_law)); exact rfl; exact rfl; kernel_rfl; exact rfl)
        | ((with_reducible apply DSat.call0 (sanity_law)); exact rfl; exact rfl; kernel_rfl; exact rfl)
        | ((with_reducible apply DSat.callM0 (sanity_law)); exact rfl; exact rfl; (first | exact rfl | assumption | (decide +kernel)); exact rfl; kernel_rfl; exact rfl)
        | ((with_reducible apply Sat.call (m1)); exact rfl; exact rfl; kernel_rfl; (exact cnvX); exact rfl)
        | ((with_reducible apply DSat.call (m1)); exact rfl; exact rfl; kernel_rfl; (exact cnvX); exact rfl)
        | ((with_reducible apply Sat.call (m2)); exact rfl; exact rfl; kernel_rfl; (exact cnvX); exact rfl)
        | ((with_reducible apply DSat.call (m2)); exact rfl; exact rfl; kernel_rfl; (exact cnvX); exact rfl)
        | ((with_reducible apply Sat.call (m3)); exact rfl; exact rfl; kernel_rfl; (exact cnvX); exact rfl)
        | ((with_reducible apply DSat.call (m3)); exact rfl; exact rfl; kernel_rfl; (exact cnvX); exact rfl)
        | ((with_reducible apply Sat.call (m4)); exact rfl; exact rfl; kernel_rfl; (exact cnvX); exact rfl)
        | ((with_reducible apply DSat.call (m4)); exact rfl; exact rfl; kernel_rfl; (exact cnvX); exact rfl)
        | ((with_reducible apply Sat.call (b1)); exact rfl; exact rfl; kernel_rfl; (exact cnvX); exact rfl)
        | ((with_reducible apply DSat.call (b1)); exact rfl; exact rfl; kernel_rfl; (exact cnvX); exact rfl)
        | ((with_reducible apply Sat.call (b2)); exact rfl; exact rfl; kernel_rfl; (exact cnvX); exact rfl)
        | ((with_reducible apply DSat.call (b2)); exact rfl; exact rfl; kernel_rfl; (exact cnvX); exact rfl)
        | ((with_reducible apply Sat.call (b3)); exact rfl; exact rfl; kernel_rfl; (exact cnvX); exact rfl)
        | ((with_reducible apply DSat.call (b3)); exact rfl; exact rfl; kernel_rfl; (exact cnvX); exact rfl)
        | ((with_reducible apply Sat.call (b4)); exact rfl; exact rfl; kernel_rfl; (exact cnvX); exact rfl)
        | ((with_reducible apply DSat.call (b4)); exact rfl; exact rfl; kernel_rfl; (exact cnvX); exact rfl)
        | ((with_reducible apply Sat.callR (e1)); exact rfl; exact rfl; exact rfl; kernel_rfl; (exact cnvX); exact rfl)
        | ((with_reducible apply DSat.callR (e1)); exact rfl; exact rfl; exact rfl; kernel_rfl; (exact cnvX); exact rfl)
        | ((with_reducible apply Sat.callR (e2)); exact rfl; exact rfl; exact rfl; kernel_rfl; (exact cnvX); exact rfl)
        | ((with_reducible apply DSat.callR (e2)); exact rfl; exact rfl; exact rfl; kernel_rfl; (exact cnvX); exact rfl)
        | ((with_reducible apply Sat.callR (s1)); exact rfl; exact rfl; exact rfl; kernel_rfl; (exact cnvX); exact rfl)
        | ((with_reducible apply DSat.callR (s1)); exact rfl; exact rfl; exact rfl; kernel_rfl; (exact cnvX); exact rfl)
        | ((with_reducible apply Sat.callR (s2)); exact rfl; exact rfl; exact rfl; kernel_rfl; (exact cnvX); exact rfl)
        | ((with_reducible apply DSat.callR (s2)); exact rfl; exact rfl; exact rfl; kernel_rfl; (exact cnvX); exact rfl)
        | ((with_reducible apply DSat.callM (b3)); exact rfl; exact rfl; (first | exact rfl | assumption | (decide +kernel)); exact rfl; kernel_rfl; (exact cnvX); exact rfl)
        | ((with_reducible apply DSat.callM (b4)); exact rfl; exact rfl; (first | exact rfl | assumption | (decide +kernel)); exact rfl; kernel_rfl; (exact cnvX); exact rfl)
        | ((with_reducible apply Sat.callG1 (e2)); exact rfl; exact rfl; exact rfl; exact rfl; kernel_rfl; (intro hG; (exact cnvX)); exact rfl)
        | ((with_reducible apply DSat.callG1 (e2)); exact rfl; exact rfl; exact rfl; exact rfl; kernel_rfl; (intro hG; (exact cnvX)); exact rfl)
        | ((with_reducible apply Sat.callG1 (s2)); exact rfl; exact rfl; exact rfl; exact rfl; kernel_rfl; (intro hG; (exact cnvX)); exact rfl)
        | ((with_reducible apply DSat.callG1 (s2)); exact rfl; exact rfl; exact rfl; exact rfl; kernel_rfl; (intro hG; (exact cnvX)); exact rfl) | fail)
    all_goals (refine Sat.fin (Sat.end1 rfl rfl rfl True.intro (.refl _ purX) (by first | exact .inl rfl | exact .inr rfl) (fun _ h => h)) ?_; (first | exact rfl | exact congrArg SV.bool (by decide +kernel)))
end Go.Proofs.YtegbdcadlmefgaaDoor
end
section
namespace Go.Proofs.YtegbdcadlmefgaaDoor
open Go.RowKit V
set_option maxRecDepth 100000
section
variable {H : Type}
@[reducible] def rawSV (d : DataW H) : List SV := [.int .u16 (iOf (nthD (ptsD d) 0)), .int .u16 (iOf (nthD (ptsD d) 1)), .int .u32 (iOf (nthD (ptsD d) 2)), .int .u32 (iOf (nthD (ptsD d) 3)), .int .u8 (iOf (nthD (ptsD (nthD (ptsD d) 4)) 0)), .int .u8 (iOf (nthD (ptsD (nthD (ptsD d) 4)) 1)), .ro (.u8 ((eOf (nthD (ptsD d) 5)).map u8Of)), .ro (.u8 ((eOf (nthD (ptsD d) 6)).map u8Of))]
def rawD (d : DataW H) : RawL := ⟨(iOf (nthD (ptsD d) 0)).toNat, (iOf (nthD (ptsD d) 1)).toNat, (iOf (nthD (ptsD d) 2)).toNat, (iOf (nthD (ptsD d) 3)).toNat, u8Of (nthD (ptsD (nthD (ptsD d) 4)) 0), u8Of (nthD (ptsD (nthD (ptsD d) 4)) 1), (eOf (nthD (ptsD d) 5)).map u8Of, (eOf (nthD (ptsD d) 6)).map u8Of⟩
@[reducible] def rolesSV (l : List (DataW H)) : EV := .g l.length 2 fun i => [.int .u8 (iOf (nthD (ptsD (nthD l i)) 0)), .int .u8 (iOf (nthD (ptsD (nthD l i)) 1))]
@[reducible] def rawQSV (d : DataW H) : List SV := [.int .u16 (iOf (nthD (ptsD d) 0)), .int .u32 (iOf (nthD (ptsD d) 1)), .ro (.u8 ((eOf (nthD (ptsD d) 2)).map u8Of)), .ro (rolesSV (eOf (nthD (ptsD d) 3)))]
def pairD (d : DataW H) : UInt8 × UInt8 := (u8Of (nthD (ptsD d) 0), u8Of (nthD (ptsD d) 1))
def rawQD (d : DataW H) : RawQ := ⟨(iOf (nthD (ptsD d) 0)).toNat, (iOf (nthD (ptsD d) 1)).toNat, (eOf (nthD (ptsD d) 2)).map u8Of, (eOf (nthD (ptsD d) 3)).map pairD⟩
theorem u8Of_i (x : DataW H) (h : inR .u8 (iOf x)) : iOf x = ((u8Of x).toNat : Int) := by
  have h1 := u8_iff h
  unfold u8Of
  have h2 : (iOf x).toNat < 256 := by omega
  rw [UInt8.toNat_ofNat_of_lt' h2]
  omega
theorem rawD_l (d : DataW H) (h : factsL (rawSV d)) : rawSV d = (rawD d).l := by
  obtain ⟨h0, h1, h2, h3, h4, h5, _⟩ := h
  have a0 := u16_iff h0
  have a1 := u16_iff h1
  have a2 := u32_iff h2
  have a3 := u32_iff h3
  show [_, _, _, _, _, _, _, _] = [SV.int .u16 (((iOf (nthD (ptsD d) 0)).toNat : Nat) : Int), SV.int .u16 (((iOf (nthD (ptsD d) 1)).toNat : Nat) : Int), SV.int .u32 (((iOf (nthD (ptsD d) 2)).toNat : Nat) : Int), SV.int .u32 (((iOf (nthD (ptsD d) 3)).toNat : Nat) : Int), SV.int .u8 ((u8Of (nthD (ptsD (nthD (ptsD d) 4)) 0)).toNat : Int), SV.int .u8 ((u8Of (nthD (ptsD (nthD (ptsD d) 4)) 1)).toNat : Int), _, _]
  rw [Int.toNat_of_nonneg a0.1, Int.toNat_of_nonneg a1.1, Int.toNat_of_nonneg a2.1, Int.toNat_of_nonneg a3.1, ← u8Of_i _ h4, ← u8Of_i _ h5]
  rfl
theorem rolesSV_eq (l : List (DataW H)) (h : ∀ i, i < l.length → inR .u8 (iOf (nthD (ptsD (nthD l i)) 0)) ∧ inR .u8 (iOf (nthD (ptsD (nthD l i)) 1))) : rolesSV l = rawRoles (l.map pairD) := by
  show EV.g _ _ _ = EV.g _ _ _
  rw [List.length_map]
  congr 1
  funext i
  have e : (l.map pairD).getD i (0, 0) = pairD (nthD l i) := map_nthD pairD l i
  rw [e]
  by_cases hi : i < l.length
  · obtain ⟨h1, h2⟩ := h i hi
    show [SV.int .u8 _, SV.int .u8 _] = [SV.int .u8 ((u8Of (nthD (ptsD (nthD l i)) 0)).toNat : Int), SV.int .u8 ((u8Of (nthD (ptsD (nthD l i)) 1)).toNat : Int)]
    rw [← u8Of_i _ h1, ← u8Of_i _ h2]
  · rw [nthD_out l i (by omega)]
    rfl
theorem rawQD_l (d : DataW H) (h : factsL (rawQSV d)) : rawQSV d = (rawQD d).l := by
  obtain ⟨h0, h1, _, ⟨_, h3⟩, _⟩ := h
  have a0 := u16_iff h0
  have a1 := u32_iff h1
  have e := rolesSV_eq (eOf (nthD (ptsD d) 3)) fun i hi => ⟨(h3 i hi).1, (h3 i hi).2.1⟩
  show [_, _, _, SV.ro (rolesSV (eOf (nthD (ptsD d) 3)))] = [SV.int .u16 (((iOf (nthD (ptsD d) 0)).toNat : Nat) : Int), SV.int .u32 (((iOf (nthD (ptsD d) 1)).toNat : Nat) : Int), _, SV.ro (rawRoles ((eOf (nthD (ptsD d) 3)).map pairD))]
  rw [Int.toNat_of_nonneg a0.1, Int.toNat_of_nonneg a1.1, e]
  rfl
end
end Go.Proofs.YtegbdcadlmefgaaDoor
end
section
namespace Go.Proofs.YtegbdcadlmefgaaDoor.V
open Go.RowKit
section
variable {C : Ctx} {Q0 : Exit → Act → World → Prop} {F F' F0 : Tr} {M M' M0 : Mem} {ids ids' ids0 : List Nat} {k : List Kont} {full rest : List Oper} {hist : List Ent} {i : Nat}
theorem DSat.goffM {d : Option Tmp} {op : Op} {type : TypeId} {pos : String} {after : Array Edge} {j : Nat} {want : Bool} {H : Prop} (v : SV) (hH : guardH F full j want = some H) (hh : ¬ H) (hp : putD C.N F d (some (.may H v)) some = some F')
    (h : DSat C Q0 k full F0 M0 ids0 (i + 1) (⟨i, d, some (.may H v), none, [], [], false⟩ :: hist) rest F' M ids) : DSat C Q0 k full F0 M0 ids0 i hist (⟨d, op, type, pos, after, some (j, want)⟩ :: rest) F M ids := by
  intro D
  obtain ⟨F1, h1, h2⟩ := putD_inv hp
  cases h1
  obtain ⟨p1, p2⟩ := putD_get h2
  refine h (D.step (fun ho Q K Fa Ma U E a w q1 q2 _ q3 hst hK => ?_) rfl rfl p2 (fun id => rfl) rfl)
  have hiff := guardH_ok (full := full) hst (guardH_le rfl q1 hH)
  have hy : ¬ (yielded full.toArray a.tmps j == some want) = true := fun hy => hh (hiff.1 hy)
  obtain ⟨F2, hF2⟩ := tr_put Fa d (some (.may H v))
  unfold wpOp
  simp only [List.getElem?_toArray, ho]
  simp only [Region.wanted, hy]
  exact hK F2 Ma U E _ w hF2 (fun id => rfl) (fun k => by simp) (hst.putG p1 hF2 fun s' hs' => by cases hs'; exact .may0 _ _ hh)
/-! ### A row that stands in the elements of another -/
def setGK {α : Type} (Y : Nat) (g : Nat → List SV) : Mem → (Mem → Option α) → Option α
  | [], K => K []
  | (i, B) :: r, K => match Nat.beq i Y with
    | true => match B with
      | .row t (.g n sz _) => K ((i, .row t (.g n sz g)) :: r)
      | _ => none
    | false => setGK Y g r fun r' => K ((i, B) :: r')
theorem setGK_inv {α : Type} {Y : Nat} {g : Nat → List SV} {x : α} : ∀ {L : Mem} {K : Mem → Option α}, setGK Y g L K = some x → ∃ L', K L' = some x
  | [], K, h => ⟨_, h⟩
  | (i, B) :: r, K, h => by
    simp only [setGK] at h
    split at h
    · split at h
      · exact ⟨_, h⟩
      · cases h
    · obtain ⟨L', h'⟩ := setGK_inv h
      exact ⟨_, h'⟩
def nst (wide : Bool) (pins : List Nat) (ids : List Nat) (X Y : Nat) (g : Nat → List SV) (F : Tr) (M : Mem) : Option Frz :=
  frzTK M true X F fun F' => frzMK M true X M fun M1 => setGK Y g M1 fun M' => match intoF wide pins [(1000 + Y, none)] F M F' M' ids with
    | some φ => some ⟨F', M', φ⟩
    | none => none
theorem nst_ok {X Y : Nat} {g : Nat → List SV} {φ : List Prop} {U : Nat → Prop} {E : Env} {a : Act} {w : World} (h : nst C.wide C.pins ids X Y g F M = some ⟨F', M', φ⟩) (hφ : AllP φ) (hst : St C F M U E a w) : ∃ U' E', Sup ids U' ∧ St C F' M' U' E' a w := by
  unfold nst at h
  rw [frzTK_eq, frzMK_eq] at h
  obtain ⟨L', h⟩ := setGK_inv h
  split at h
  · rename_i ψ hi
    simp only [Option.some.injEq, Frz.mk.injEq] at h
    obtain ⟨rfl, rfl, rfl⟩ := h
    exact into_ok hst hi hφ
  · cases h
/-- Row X, which stands in elements of row Y, is given up; Y's elements are said anew. -/
theorem Sat.nest {φ : List Prop} (X Y : Nat) (g : Nat → List SV) (hz : nst C.wide C.pins ids X Y g F M = some ⟨F', M', φ⟩) (hφ : AllP φ) (hn : Sat C Q0 (.reg full rest F' M' ids k)) : Sat C Q0 (.reg full rest F M ids k) := by
  intro U E a w _ hst
  obtain ⟨U', E', h1, h2⟩ := nst_ok hz hφ hst
  exact hn U' E' a w h1 h2
end
end Go.Proofs.YtegbdcadlmefgaaDoor.V
end
section
namespace Go.Proofs.YtegbdcadlmefgaaDoor
open Go.RowKit V
set_option maxRecDepth 100000
set_option linter.unusedSimpArgs false
theorem getD_app_l {α : Type} (l : List α) (x d : α) (i : Nat) (h : i < l.length) : (l ++ [x]).getD i d = l.getD i d := by
  simp [List.getD_eq_getElem?_getD, List.getElem?_append_left h]
theorem getD_app_r {α : Type} (l : List α) (x d : α) : (l ++ [x]).getD l.length d = x := by
  simp [List.getD_eq_getElem?_getD]
theorem set_last {α : Type} (l : List α) (y x : α) : (l ++ [y]).set l.length x = l ++ [x] := by
  simp [List.set_append]
theorem ris_mono (l : List Int) (h : ∀ i, i < l.length → 0 < i → l.getD (i - 1) 0 < l.getD i 0) (k : Nat) : ∀ m, k ≤ m → m < l.length → l.getD k 0 ≤ l.getD m 0
  | 0, hk, _ => by obtain rfl : k = 0 := by omega
                   omega
  | m + 1, hk, hm => by
    rcases Nat.lt_or_ge k (m + 1) with h1 | h1
    · have ih := ris_mono l h k m (by omega) (by omega)
      have := h (m + 1) hm (by omega)
      rw [Nat.add_sub_cancel] at this
      omega
    · obtain rfl : k = m + 1 := by omega
      omega
theorem ris_last (l : List Int) (low high x : Int) (hr : risB l low high = true) (hx : high < x ∨ ∃ k, k < l.length ∧ x = l.getD k 0) : risB (l ++ [x]) low high = false := by
  refine decide_eq_false fun h => ?_
  obtain ⟨h1, h2⟩ := h l.length (by simp)
  rw [getD_app_r] at h1 h2
  rcases hx with hx | ⟨k, hk, hx⟩
  · unfold inB at h1
    simp only [Bool.and_eq_true, decide_eq_true_eq] at h1
    omega
  · have h3 := h2 (by omega)
    rw [getD_app_l l x 0 (l.length - 1) (by omega)] at h3
    have h4 := of_decide_eq_true hr
    have := ris_mono l (fun i hi => (h4 i hi).2) k (l.length - 1) (by omega) (by omega)
    omega
theorem gone_last (r : Rel) (hv : validB r = true) (x : Int) (hx : 60000 < x ∨ ∃ k, k < r.gone.length ∧ x = r.gone.getD k 0) : validB { r with gone := r.gone ++ [x] } = false := by
  unfold validB at hv ⊢
  simp only [Bool.and_eq_true] at hv
  have h2 : valid2 { r with gone := r.gone ++ [x] } = false := by
    have h := hv.2.1
    unfold valid2 at h ⊢
    simp only [Bool.and_eq_true] at h
    show (_ && (risB (r.gone ++ [x]) 0 60000 && _)) = false
    rw [ris_last r.gone 0 60000 x h.2.1 hx, Bool.false_and, Bool.and_false]
  rw [h2, Bool.false_and, Bool.and_false]
def partA : PartL := ⟨[65], List.replicate 32 0⟩
theorem parts_last (r : Rel) (hv : validB r = true) (hn : ∀ p ∈ r.parts, Op.bytesLess p.name [65] = false) : validB { r with parts := r.parts ++ [partA] } = decide (r.parts.length = 0) := by
  unfold validB at hv ⊢
  simp only [Bool.and_eq_true] at hv
  obtain ⟨v1, v2, v3, _⟩ := hv
  have e1 : valid1 { r with parts := r.parts ++ [partA] } = true := v1
  have e3 : valid3 { r with parts := r.parts ++ [partA] } = true := v3
  rw [e1, e3, Bool.true_and, Bool.true_and]
  cases hp : r.parts with
  | nil =>
    unfold valid2 at v2 ⊢
    simp only [Bool.and_eq_true] at v2
    obtain ⟨a1, a2, _⟩ := v2
    show (decide (r.gone.length ≤ 16) && (risB r.gone 0 60000 && true) && valid4 { r with parts := [partA] }) = true
    rw [a1, a2]
    exact (by decide +kernel : decide (∀ i, i < ([partA] : List PartL).length → PartP [partA] i) = true)
  | cons p l =>
    have h4 : valid4 { r with parts := r.parts ++ [partA] } = false := by
      refine decide_eq_false fun h => ?_
      have h5 := (h r.parts.length (by simp)).2 (by rw [hp]; simp)
      dsimp only at h5
      rw [getD_app_r, getD_app_l _ _ _ _ (by rw [hp]; simp)] at h5
      have h6 := hn (r.parts.getD (r.parts.length - 1) part0) (getD_mem _ _ _ (by rw [hp]; simp))
      rw [show partA.name = [65] from rfl, h6] at h5
      cases h5
    rw [hp] at h4
    rw [h4, Bool.and_false]
    rfl
theorem keys_last (q : RootL) (k : Nat) (hk : k < q.keys.length) : rootB { q with keys := q.keys ++ [q.keys.getD k []] } = false := by
  have h2 : root2 { q with keys := q.keys ++ [q.keys.getD k []] } = false := by
    refine decide_eq_false fun h => ?_
    refine h q.keys.length (by simp) k hk ?_
    dsimp only
    rw [getD_app_r, getD_app_l _ _ _ _ hk]
  unfold rootB
  rw [h2, Bool.false_and, Bool.and_false]
theorem roles_last (q : RootL) (k : Nat) (hk : k < q.roles.length) (hn : ∀ i k, k ≤ i → i < q.roles.length → Op.bytesLess (q.roles.getD i role0).name (q.roles.getD k role0).name = false) : rootB { q with roles := q.roles ++ [q.roles.getD k role0] } = false := by
  have h3 : root3 { q with roles := q.roles ++ [q.roles.getD k role0] } = false := by
    refine decide_eq_false fun h => ?_
    have h5 := (h q.roles.length (by simp)).2.1 (by omega)
    dsimp only at h5
    rw [getD_app_r, getD_app_l _ _ _ _ (by omega), hn _ _ (by omega) (by omega)] at h5
    cases h5
  unfold rootB
  rw [h3, Bool.and_false, Bool.and_false]
def roleE (x : RoleL) : RoleL := { x with keys := x.keys ++ [x.keys.getD 0 0] }
theorem role_keys (q : RootL) (hv : rootB q = true) : rootB { q with roles := q.roles.set 0 (roleE (q.roles.getD 0 role0)) } = false := by
  have hl := (root_nums hv).2.2.2.1
  have h3 : root3 { q with roles := q.roles.set 0 (roleE (q.roles.getD 0 role0)) } = false := by
    unfold rootB at hv
    simp only [Bool.and_eq_true] at hv
    obtain ⟨_, _, k1, k2, _⟩ := of_decide_eq_true hv.2.2 0 (by omega)
    refine decide_eq_false fun h => ?_
    obtain ⟨_, _, _, h4, _⟩ := h 0 (by simp; omega)
    dsimp only at h4
    have e : (q.roles.set 0 (roleE (q.roles.getD 0 role0))).getD 0 role0 = roleE (q.roles.getD 0 role0) := by
      rw [List.getD_eq_getElem?_getD, List.getElem?_set_self (by omega)]
      rfl
    rw [e] at h4
    unfold roleE at h4
    rw [ris_last _ _ _ _ k2 (.inr ⟨0, by omega, rfl⟩)] at h4
    cases h4
  unfold rootB
  rw [h3, Bool.and_false, Bool.and_false]
theorem madeR_names (x : RawL) : ∀ p ∈ (madeR x).parts, Op.bytesLess p.name [65] = false := by
  intro p hp
  have hp : p ∈ partsM 0 (x.parts.take 4) := hp
  obtain ⟨i, hi, rfl⟩ := mem_getD _ part0 p hp
  rw [partsM_len] at hi
  have hl2 : (x.parts.take 4).length ≤ 4 := by simp; omega
  rw [partsM_at _ 0 i hi, Nat.zero_add]
  have hi4 : i < 4 := by omega
  show Op.bytesLess (nameM i) [65] = false
  clear hi hp hl2
  rcases i with _ | _ | _ | _ | i
  · decide +kernel
  · decide +kernel
  · decide +kernel
  · decide +kernel
  · omega
theorem nameR_less (i k : Nat) (hk : k ≤ i) (hi : i < 4) : Op.bytesLess (nameR i) (nameR k) = false := by
  rcases i with _ | _ | _ | _ | i <;> rcases k with _ | _ | _ | _ | k <;> first | omega | decide +kernel
theorem madeQ_names (x : RawQ) : ∀ i k, k ≤ i → i < (madeQ x).roles.length → Op.bytesLess ((madeQ x).roles.getD i role0).name ((madeQ x).roles.getD k role0).name = false := by
  intro i k hk hi
  have hl2 : (x.roles.take 4).length ≤ 4 := by simp; omega
  have hm : (madeQ x).roles = rolesF (keysF (x.keys.take 5)).length (x.roles.take 4) := rfl
  rw [hm] at hi ⊢
  generalize (keysF (x.keys.take 5)).length = n at *
  generalize x.roles.take 4 = rs at *
  unfold rolesF at hi ⊢
  cases hc : decide ((rolesM n 0 rs).length = 0) with
  | true =>
    rw [hc] at hi
    have hi : i < 1 := hi
    obtain rfl : i = 0 := by omega
    obtain rfl : k = 0 := by omega
    exact (by decide +kernel : Op.bytesLess (nameR 1) (nameR 1) = false)
  | false =>
    rw [hc] at hi
    have hi : i < (rolesM n 0 rs).length := hi
    show Op.bytesLess ((rolesM n 0 rs).getD i role0).name ((rolesM n 0 rs).getD k role0).name = false
    rw [rolesM_len] at hi
    rw [rolesM_at _ _ 0 i hi, rolesM_at _ _ 0 k (by omega), Nat.zero_add, Nat.zero_add]
    exact nameR_less i k hk (by omega)
/-! ### Many -/
def goneN (x : Nat) : List Int := (List.range x).map fun (i : Nat) => (i : Int)
def partsNN (x : Nat) : List PartL := (List.range x).map fun i => ⟨[UInt8.ofNat (97 + i)], List.replicate 32 0⟩
def keysN (x : Nat) : List (List UInt8) := [List.replicate 32 7] ++ (List.range x).map fun i => sumB (UInt8.ofNat (100 + i))
theorem many_gone (m : Nat) (hm : m < 4) : validB { smallR with gone := goneN (14 + m) } = decide (m ≤ 2) := by
  rcases m with _ | _ | _ | _ | m <;> first | omega | decide +kernel
theorem many_parts (m : Nat) (hm : m < 3) : validB { smallR with parts := partsNN (7 + m) } = decide (m ≤ 1) := by
  rcases m with _ | _ | _ | m <;> first | omega | decide +kernel
theorem many_keys (m : Nat) (hm : m < 3) : rootB { rootS with keys := keysN (7 + m) } = decide (m ≤ 0) := by
  rcases m with _ | _ | _ | m <;> first | omega | decide +kernel
end Go.Proofs.YtegbdcadlmefgaaDoor
end
section
namespace Go.Proofs.YtegbdcadlmefgaaDoor
open Go.RowKit V
--PURE: (intro _ _; simp [pureL, pureS, pureE]; done)
set_option maxRecDepth 100000
set_option maxHeartbeats 4000000
set_option linter.unusedSimpArgs false
attribute [local irreducible] V.Sat V.DSat
theorem small_nil : Fun Tryd.prog [] 29 [] (.agg [.int .i64 258, .int .i64 1, .int .i64 3, .int .i64 65536, .arr 32 (.u8 (List.replicate 32 0)), .int .i64 1, .arr 32 (.u8 (List.replicate 32 0)), .nils, .nils]) := by
  refine Fun.mk 6 Tryd.func29 rfl Tryd.ntmps29 rfl rfl fun T w0 => ?_
  repeat' (first
      | ((with_reducible apply Sat.run (X := X64)); exact rfl; (first | exact True.intro | (exact phi) | skip))
      | ((with_reducible apply Sat.drawn); kernel_rfl)
      | ((with_reducible apply DSat.run (X := X64)); exact rfl; (first | exact True.intro | (exact phi) | skip))
      | ((with_reducible apply DSat.fin); kernel_rfl)
      | ((with_reducible apply Sat.cond_t); exact rfl)
      | ((with_reducible apply Sat.cond_f); exact rfl)
      | ((with_reducible apply Sat.cond_pt); exact rfl; (try dsimp only [V.EV.sub, V.EV.len]); first | assumption | omega)
      | ((with_reducible apply Sat.cond_pf); exact rfl; (try dsimp only [V.EV.sub, V.EV.len]); first | assumption | omega)
      | ((with_reducible apply Sat.cond_p); exact rfl; all_goals intro h)
      | ((with_reducible apply Sat.cond); exact rfl; all_goals intro h) | fail)
  (refine Sat.fin (Sat.end1 rfl rfl rfl True.intro (.refl _ purX) (by first | exact .inl rfl | exact .inr rfl) (fun _ h => h)) ?_; exact rfl)
def rolesS (l : List RoleL) (i : Nat) : List SV := [.str ((l.set 0 (roleE (l.getD 0 role0))).getD i role0).name, .ro (.ints .i64 ((l.set 0 (roleE (l.getD 0 role0))).getD i role0).keys), .int .i64 ((l.set 0 (roleE (l.getD 0 role0))).getD i role0).need]
theorem row_snoc {α : Type} (F : α → List SV) (l : List α) (x d : α) : ∀ i, i < 0 + l.length + 1 → (if i < 0 + l.length then (fun i => if i < 0 then nthL [] i else (fun i => F (l.getD i d)) (i - 0)) i else (fun i => nthL [F x] (0 + i)) (i - (0 + l.length))) = F ((l ++ [x]).getD i d) := by
  intro i hi
  by_cases h : i < l.length
  · rw [if_pos (by omega), getD_app_l _ _ _ _ h]
    rfl
  · obtain rfl : i = l.length := by omega
    rw [if_neg (by omega), getD_app_r]
    dsimp only
    rw [show 0 + (l.length - (0 + l.length)) = 0 by omega]
    rfl
theorem goneN_succ (x : Nat) : goneN x ++ [(x : Int)] = goneN (x + 1) := by
  unfold goneN
  rw [List.range_succ, List.map_append]
  rfl
theorem goneN_len (x : Nat) : (goneN x).length = x := by simp [goneN]
theorem partsNN_len (x : Nat) : (partsNN x).length = x := by simp [partsNN]
theorem keysN_len (x : Nat) : (keysN x).length = 1 + x := by simp [keysN]; omega
theorem sum_at (x : Nat) (h : x < 10) : Fun Tryd.prog [] 31 [.int .u8 (IntKind.u8.wrap (100 + (x : Int)))] (.arr 32 (.u8 (sumB (UInt8.ofNat (100 + x))))) := by
  have hs := sumB_spec (UInt8.ofNat (100 + x))
  have e : ((UInt8.ofNat (100 + x)).toNat : Int) = IntKind.u8.wrap (100 + (x : Int)) := by
    rw [wrap_u8, UInt8.toNat_ofNat_of_lt' (show 100 + x < 256 by omega)]
    omega
  rw [e] at hs
  exact hs
theorem row_snoc2 {α : Type} (F : α → List SV) (l : List α) (x d : α) : ∀ i, i < l.length + 1 → (if i < l.length then (fun i => F (l.getD i d)) i else (fun i => nthL [F x] (0 + i)) (i - l.length)) = F ((l ++ [x]).getD i d) := by
  intro i hi
  by_cases h : i < l.length
  · rw [if_pos h, getD_app_l _ _ _ _ h]
  · obtain rfl : i = l.length := by omega
    rw [if_neg h, getD_app_r]
    dsimp only
    rw [show 0 + (l.length - l.length) = 0 by omega]
    rfl
theorem partsNN_succ (x : Nat) : partsNN x ++ [⟨[UInt8.ofNat (97 + x)], List.replicate 32 0⟩] = partsNN (x + 1) := by
  unfold partsNN
  rw [List.range_succ, List.map_append]
  rfl
theorem keysN_succ (x : Nat) : keysN x ++ [sumB (UInt8.ofNat (100 + x))] = keysN (x + 1) := by
  unfold keysN
  rw [List.range_succ, List.map_append, List.append_assoc]
  rfl
theorem many_c (m : Nat) (h : m < 4) : Fun Tryd.prog [] 12 [({ smallR with gone := goneN (14 + m) } : Rel).v] (.bool (decide (((goneN (14 + m)).length : Int) ≤ 16))) := by
  have v := valid_spec ({ smallR with gone := goneN (14 + m) } : Rel)
  rw [many_gone m h] at v
  rw [goneN_len, show decide (((14 + m : Nat) : Int) ≤ 16) = decide (m ≤ 2) from decide_eq_decide.2 (by omega)]
  exact v
theorem parts_c (m : Nat) (h : m < 3) : Fun Tryd.prog [] 12 [({ smallR with parts := partsNN (7 + m) } : Rel).v] (.bool (decide (((partsNN (7 + m)).length : Int) ≤ 8))) := by
  have v := valid_spec ({ smallR with parts := partsNN (7 + m) } : Rel)
  rw [many_parts m h] at v
  rw [partsNN_len, show decide (((7 + m : Nat) : Int) ≤ 8) = decide (m ≤ 1) from decide_eq_decide.2 (by omega)]
  exact v
theorem keys_c (m : Nat) (h : m < 3) : Fun Tryd.prog [] 17 [({ rootS with keys := keysN (7 + m) } : RootL).v] (.bool (decide (((keysN (7 + m)).length : Int) ≤ 8))) := by
  have v := validRoot_spec ({ rootS with keys := keysN (7 + m) } : RootL)
  rw [many_keys m h] at v
  rw [keysN_len, show decide (((1 + (7 + m) : Nat) : Int) ≤ 8) = decide (m ≤ 0) from decide_eq_decide.2 (by omega)]
  exact v
theorem f12_of {r : Rel} {b : Bool} (h : validB r = b) : Fun Tryd.prog [] 12 [r.v] (.bool b) := by
  have v := valid_spec r
  rw [h] at v
  exact v
theorem f17_of {r : RootL} {b : Bool} (h : rootB r = b) : Fun Tryd.prog [] 17 [r.v] (.bool b) := by
  have v := validRoot_spec r
  rw [h] at v
  exact v
theorem pure_nth1 (x : List SV) (h : pureL x) : ∀ k, pureL (nthL [x] k)
  | 0 => h
  | _ + 1 => trivial
theorem rolesS_zero (l : List RoleL) (h : 0 < l.length) : rolesS l 0 = [.str (l.getD 0 role0).name, .ro (.ints .i64 ((l.getD 0 role0).keys ++ [(l.getD 0 role0).keys.getD 0 0])), .int .i64 (l.getD 0 role0).need] := by
  unfold rolesS
  have e : (l.set 0 (roleE (l.getD 0 role0))).getD 0 role0 = roleE (l.getD 0 role0) := by
    rw [List.getD_eq_getElem?_getD, List.getElem?_set_self h]
    rfl
  rw [e]
  rfl
theorem rolesS_succ (l : List RoleL) (i : Nat) : rolesS l (i + 1) = [.str (l.getD (i + 1) role0).name, .ro (.ints .i64 (l.getD (i + 1) role0).keys), .int .i64 (l.getD (i + 1) role0).need] := by
  unfold rolesS
  have e : (l.set 0 (roleE (l.getD 0 role0))).getD (i + 1) role0 = l.getD (i + 1) role0 := by
    rw [List.getD_eq_getElem?_getD, List.getElem?_set_ne (by omega), List.getD_eq_getElem?_getD]
  rw [e]
theorem orders_law (x : RawL) (y : RawQ) (a b : Int) : Fun Tryd.prog [] 10 [x.v, y.v, .agg [.int .u8 a, .int .u8 b]] (.bool true) := by
  have hl : (List.replicate 32 (7 : UInt8)).length = 32 := rfl
  have hvv : ∀ x, x < 32 → (List.replicate 32 (7 : UInt8)).getD x 0 = 7 := fun x hx => by rw [List.getD_eq_getElem?_getD, List.getElem?_replicate, if_pos hx]; rfl
  refine Fun.mkF 8 Tryd.func10 rfl Tryd.ntmps10 rfl rfl fun hf T w0 => ?_
  have g1 := u16_iff hf.1.1
  have g2 := u16_iff hf.2.1.1
  have g3 := u8_iff hf.2.2.1.1
  have g4 := u8_iff hf.2.2.1.2.1
  have m1 := made_walk x (by omega)
  have m2 := madeRoot_walk y
  have hv := madeR_valid x
  have hn := madeR_names x
  have hv2 := madeQ_valid y (by omega)
  have hn2 := madeQ_names y
  generalize madeR x = r at *
  generalize madeQ y = q at *
  obtain ⟨_, _, _, _, _, n16, n17, _⟩ := valid_nums hv
  obtain ⟨_, _, n23, n24, n25⟩ := root_nums hv2
  have q1 := Int.emod_nonneg a (show (q.keys.length : Int) ≠ 0 by omega)
  have q2 := Int.emod_lt_of_pos a (show 0 < (q.keys.length : Int) by omega)
  have q3 := Int.emod_nonneg b (show (q.roles.length : Int) ≠ 0 by omega)
  have q4 := Int.emod_lt_of_pos b (show 0 < (q.roles.length : Int) by omega)
  have k0 := n25 (q.roles.getD 0 role0) (getD_mem _ _ _ (by omega))
  have k1 := k0.2.1
  have k2 : 0 < (q.roles.getD 0 role0).keys.length := by
    have h := hv2
    unfold rootB at h
    simp only [Bool.and_eq_true] at h
    have := (of_decide_eq_true h.2.2 0 (by omega)).2.2.1
    omega
  have ht4 : a.tmod 4 = a % 4 := Int.tmod_eq_emod_of_nonneg (by omega)
  have ht3 : a.tmod 3 = a % 3 := Int.tmod_eq_emod_of_nonneg (by omega)
  obtain ⟨m4, hm4⟩ : ∃ m : Nat, (m : Int) = a.tmod 4 := ⟨(a % 4).toNat, by omega⟩
  obtain ⟨m3, hm3⟩ : ∃ m : Nat, (m : Int) = a.tmod 3 := ⟨(a % 3).toNat, by omega⟩
  have hb4 : m4 < 4 := by omega
  have hb3 : m3 < 3 := by omega
  repeat' (first
      | ((with_reducible apply Sat.run (X := X64)); exact rfl; (first | exact True.intro | (exact phi) | skip))
      | ((with_reducible apply Sat.drawn); kernel_rfl)
      | ((with_reducible apply DSat.run (X := X64)); exact rfl; (first | exact True.intro | (exact phi) | skip))
      | ((with_reducible apply DSat.fin); kernel_rfl)
      | ((with_reducible apply Sat.gon); exact rfl; first | exact rfl | (decide +kernel))
      | ((with_reducible apply Sat.call0 (sanity_law)); exact rfl; exact rfl; kernel_rfl; exact rfl)
      | ((with_reducible apply DSat.call0 (sanity_law)); exact rfl; exact rfl; kernel_rfl; exact rfl)
      | ((with_reducible apply DSat.callM0 (sanity_law)); exact rfl; exact rfl; (first | exact rfl | assumption | (decide +kernel)); exact rfl; kernel_rfl; exact rfl)
      | ((with_reducible apply Sat.call (m1)); exact rfl; exact rfl; kernel_rfl; (exact cnvX); exact rfl)
      | ((with_reducible apply DSat.call (m1)); exact rfl; exact rfl; kernel_rfl; (exact cnvX); exact rfl)
      | ((with_reducible apply Sat.call (m2)); exact rfl; exact rfl; kernel_rfl; (exact cnvX); exact rfl)
      | ((with_reducible apply DSat.call (m2)); exact rfl; exact rfl; kernel_rfl; (exact cnvX); exact rfl) | fail)
  with_reducible apply Sat.cond
  · exact rfl
  · intro h
    have hg : 0 < r.gone.length := by have h1 := of_decide_eq_true h; have h2 : (0 : Int) < (r.gone.length : Int) := h1; omega
    have q5 := Int.emod_nonneg a (show (r.gone.length : Int) ≠ 0 by omega)
    have q6 := Int.emod_lt_of_pos a (show 0 < (r.gone.length : Int) by omega)
    have hxl : 60000 < r.gone.getD ((a % (r.gone.length : Int)).toNat) 0 ∨ ∃ k, k < r.gone.length ∧ r.gone.getD ((a % (r.gone.length : Int)).toNat) 0 = r.gone.getD k 0 := .inr ⟨_, by omega, rfl⟩
    have hset : EV.ints .i64 (([] ++ r.gone ++ List.take 1 (List.drop 0 [60001])).set (0 + (((EV.ints .i64 r.gone).len : Nat) : Int).toNat) (r.gone.getD (a % (((EV.ints .i64 r.gone).len : Nat) : Int)).toNat 0)) = EV.ints .i64 (r.gone ++ [r.gone.getD ((a % (r.gone.length : Int)).toNat) 0]) := by
      congr 1
      show (r.gone ++ [60001]).set (0 + ((r.gone.length : Nat) : Int).toNat) _ = _
      rw [Int.toNat_natCast, Nat.zero_add]
      exact set_last _ _ _
    generalize hxv : r.gone.getD ((a % (r.gone.length : Int)).toNat) 0 = xl at hxl hset
    repeat' (first
        | ((with_reducible apply Sat.run (X := X64)); exact rfl; (first | exact True.intro | (exact phi) | skip))
        | ((with_reducible apply Sat.drawn); kernel_rfl)
        | ((with_reducible apply DSat.run (X := X64)); exact rfl; (first | exact True.intro | (exact phi) | skip))
        | ((with_reducible apply DSat.fin); kernel_rfl) | fail)
    refine Sat.tidy rfl ?_
    refine Sat.nest 31 27 (rolesS q.roles) rfl ?_ ?_
    · (repeat' (first | exact AllP.nil | with_reducible refine AllP.cons ?_ ?_)) <;> first | exact rfl | exact trivial | exact ⟨rfl, rfl, rfl, rfl⟩ | (intro _ _; simp [pureL, pureS, pureE]; done) | exact .inl ⟨rfl, by simp [EV.len, EV.sub], rfl⟩ | (intro _ _; exact pure_nth1 _ (by simp [pureL, pureS, pureE]) _) | (intro _ _; dsimp only; split <;> first | (simp [pureL, pureS, pureE]; done) | exact pure_nth1 _ (by simp [pureL, pureS, pureE]) _) | skip
      · intro i hi
        rcases i with _ | i
        · rw [rolesS_zero q.roles (by omega)]
          refine ⟨_, rfl, ?_⟩
          simp only [List.cons_append, List.nil_append]
          (repeat' (first | exact AllP.nil | with_reducible refine AllP.cons ?_ ?_)) <;> first | exact rfl | exact trivial | (refine .inl ⟨?_, ?_, ?_⟩ <;> first | trivial | rfl | (simp [EV.len, EV.sub]; done))
        · rw [rolesS_succ]
          refine ⟨_, rfl, ?_⟩
          simp only [List.cons_append, List.nil_append]
          (repeat' (first | exact AllP.nil | with_reducible refine AllP.cons ?_ ?_)) <;> first | exact rfl | exact trivial
    repeat' (first
        | ((with_reducible apply Sat.run (X := X64)); exact rfl; (first | exact True.intro | (exact phi) | skip))
        | ((with_reducible apply Sat.drawn); kernel_rfl)
        | ((with_reducible apply DSat.run (X := X64)); exact rfl; (first | exact True.intro | (exact phi) | skip))
        | ((with_reducible apply DSat.fin); kernel_rfl)
        | ((with_reducible apply Sat.call0 (small_nil)); exact rfl; exact rfl; kernel_rfl; exact rfl)
        | ((with_reducible apply DSat.call0 (small_nil)); exact rfl; exact rfl; kernel_rfl; exact rfl)
        | ((with_reducible apply DSat.callM0 (small_nil)); exact rfl; exact rfl; (first | exact rfl | assumption | (decide +kernel)); exact rfl; kernel_rfl; exact rfl)
        | ((with_reducible apply Sat.inl 7 [] Tryd.func30 Tryd.ntmps30); exact rfl; exact rfl; kernel_rfl; exact rfl; exact rfl; exact rfl; exact rfl; ((repeat' (first | exact AllP.nil | with_reducible refine AllP.cons ?_ ?_)) <;> (first | exact True.intro | exact purX)); intro _ _) | fail)
    generalize hm : List.replicate 32 (7 : UInt8) = m at hl hvv
    apply Sat.loop (α := Nat) (fun x => x ≤ 32) (fun x => 32 - x) 0 (fun x => [(2, .int .i64 (x : Int))]) (fun x => [(33, .cells 23 [.arr 32 (.u8 (m.take x ++ List.replicate (32 - x) 0))])]) [] [] 0
    · intro x; exact rfl
    · intro x; exact rfl
    · exact rfl
    · exact rfl
    · (repeat' (first | exact AllP.nil | with_reducible refine AllP.cons ?_ ?_)) <;> first | exact rfl | exact trivial | exact .inl ⟨rfl, rfl, rfl⟩ | exact ⟨rfl, rfl, rfl, rfl⟩ | (intro _ _; simp [pureL, pureS, pureE]; done) | (intro _ _; exact rfl) | (intro _ _; exact pure_nth1 _ (by simp [pureL, pureS, pureE]) _) | (intro _ _; dsimp only; split <;> first | (simp [pureL, pureS, pureE]; done) | exact pure_nth1 _ (by simp [pureL, pureS, pureE]) _) | (intro i hi; rcases i with _ | i; exact ⟨by simp [pureS, pureE], trivial⟩; exact trivial) | (intro i hi; cases i <;> simp [rolesS, pureL, pureS, pureE]; done)
    · exact Nat.zero_le _
    intro x hx
    by_cases hx2 : x < 32
    · have e := set_step m x hl hx2
      rw [hvv x hx2] at e
      repeat' (first
          | ((with_reducible apply Sat.run (X := X64)); exact rfl; (first | exact True.intro | (exact phi) | skip))
          | ((with_reducible apply Sat.drawn); kernel_rfl)
          | ((with_reducible apply DSat.run (X := X64)); exact rfl; (first | exact True.intro | (exact phi) | skip))
          | ((with_reducible apply DSat.fin); kernel_rfl)
          | ((with_reducible apply Sat.cond_t); exact rfl)
          | ((with_reducible apply Sat.cond_f); exact rfl)
          | ((with_reducible apply Sat.cond_pt); exact rfl; (try dsimp only [V.EV.sub, V.EV.len]); first | assumption | omega)
          | ((with_reducible apply Sat.cond_pf); exact rfl; (try dsimp only [V.EV.sub, V.EV.len]); first | assumption | omega)
          | ((with_reducible apply Sat.cond_p); exact rfl; all_goals intro h)
          | ((with_reducible apply Sat.cond); exact rfl; all_goals intro h) | fail)
      refine Sat.back (x + 1) [] rfl ?_ (by omega) (by omega)
      (repeat' (first | exact AllP.nil | with_reducible refine AllP.cons ?_ ?_)) <;> first | with_reducible exact rfl | exact Int.natCast_add_one _ | exact congrArg EV.u8 e | exact rfl | exact trivial | exact ⟨rfl, rfl, rfl, rfl⟩ | (intro _ _; simp [pureL, pureS, pureE]; done) | (intro _ _; exact rfl) | (intro _ _; exact pure_nth1 _ (by simp [pureL, pureS, pureE]) _) | (intro _ _; dsimp only; split <;> first | (simp [pureL, pureS, pureE]; done) | exact pure_nth1 _ (by simp [pureL, pureS, pureE]) _) | (intro i hi; cases i <;> simp [rolesS, pureL, pureS, pureE]; done)
    have hx3 : x = 32 := by omega
    subst hx3
    repeat' (first
        | ((with_reducible apply Sat.run (X := X64)); exact rfl; (first | exact True.intro | (exact phi) | skip))
        | ((with_reducible apply Sat.drawn); kernel_rfl)
        | ((with_reducible apply DSat.run (X := X64)); exact rfl; (first | exact True.intro | (exact phi) | skip))
        | ((with_reducible apply DSat.fin); kernel_rfl) | fail)
    with_reducible apply Sat.cond_f
    · exact rfl
    have e32 : m.take 32 ++ List.replicate (32 - 32) 0 = m := by rw [List.take_of_length_le (by omega)]; simp
    refine Sat.runN (X := X64) 6 rfl True.intro ?_
    rw [e32]
    refine Sat.enter ?_
    refine Sat.one (X := X64) rfl True.intro ?_
    refine Sat.one (X := X64) rfl True.intro ?_
    refine Sat.one (X := X64) rfl True.intro ?_
    refine Sat.one (X := X64) rfl True.intro ?_
    refine Sat.freezeR true 35 rfl ?_ ?_
    · (repeat' (first | exact AllP.nil | with_reducible refine AllP.cons ?_ ?_)) <;> first | exact rfl | exact trivial | exact .inl ⟨rfl, rfl, rfl⟩ | exact ⟨rfl, rfl, rfl, rfl⟩ | (intro _ _; simp [pureL, pureS, pureE]; done) | (intro _ _; exact rfl) | (intro _ _; exact pure_nth1 _ (by simp [pureL, pureS, pureE]) _) | (intro _ _; dsimp only; split <;> first | (simp [pureL, pureS, pureE]; done) | exact pure_nth1 _ (by simp [pureL, pureS, pureE]) _) | (intro i hi; rcases i with _ | i; exact ⟨by simp [pureS, pureE], trivial⟩; exact trivial) | (intro i hi; cases i <;> simp [rolesS, pureL, pureS, pureE]; done)
    repeat' (first
        | ((with_reducible apply Sat.run (X := X64)); exact rfl; (first | exact True.intro | (exact phi) | skip))
        | ((with_reducible apply Sat.drawn); kernel_rfl)
        | ((with_reducible apply DSat.run (X := X64)); exact rfl; (first | exact True.intro | (exact phi) | skip))
        | ((with_reducible apply DSat.fin); kernel_rfl)
        | ((with_reducible apply Sat.cond_t); exact rfl)
        | ((with_reducible apply Sat.cond_f); exact rfl)
        | ((with_reducible apply Sat.cond_pt); exact rfl; (try dsimp only [V.EV.sub, V.EV.len]); first | assumption | omega)
        | ((with_reducible apply Sat.cond_pf); exact rfl; (try dsimp only [V.EV.sub, V.EV.len]); first | assumption | omega)
        | ((with_reducible apply Sat.cond_p); exact rfl; all_goals intro h)
        | ((with_reducible apply Sat.cond); exact rfl; all_goals intro h)
        | ((with_reducible apply Sat.out1 (C := ⟨_, _, _, _, _, _, _, _, _⟩)); exact rfl; (first | exact .inl rfl | exact .inr rfl); exact rfl; (exact phi); exact rfl)
        | ((with_reducible apply Sat.out0 (C := ⟨_, _, _, _, _, _, _, _, _⟩)); exact rfl; (first | exact .inl rfl | exact .inr rfl); exact rfl)
        | ((with_reducible apply Sat.out2 (C := ⟨_, _, _, _, _, _, _, _, _⟩)); exact rfl; (first | exact .inl rfl | exact .inr rfl); exact rfl; (exact phi); exact rfl; (exact phi); exact rfl) | fail)
    apply Sat.loop (α := Nat) (fun x => x ≤ 14 + m4) (fun x => 14 + m4 - x) 0 (fun x => [(18, .int .i64 (x : Int))]) (fun x => [(37, .cells 27 [.int .i64 258, .int .i64 1, .int .i64 3, .int .i64 65536, .arr 32 (.u8 (List.replicate 32 0)), .int .i64 1, .arr 32 (.u8 (List.replicate 32 0)), .row 40 0 1 0 (goneN x).length, .nils]), (40, .row 3 (.ints .i64 (goneN x))),
        (13, .row 3 (.ints .i64 (r.gone ++ [xl]))), (5, .cells 27 [.int .i64 r.version, .int .i64 r.floor, .int .i64 r.expiry, .int .i64 r.size, .arr 32 (.u8 r.image), .int .i64 r.chunks, .arr 32 (.u8 r.tree), .row 13 0 1 0 (r.gone ++ [xl]).length, .ro (partsE r.parts)]),
        (17, .row 66 (partsE (r.parts ++ [partA]))), (6, .cells 27 [.int .i64 r.version, .int .i64 r.floor, .int .i64 r.expiry, .int .i64 r.size, .arr 32 (.u8 r.image), .int .i64 r.chunks, .arr 32 (.u8 r.tree), .ro (.ints .i64 r.gone), .row 17 0 33 0 (r.parts ++ [partA]).length]),
        (21, .row 23 (keysE (q.keys ++ [q.keys.getD ((a % (q.keys.length : Int)).toNat) []]))), (7, .cells 31 [.int .i64 q.gen, .int .i64 q.expiry, .row 21 0 32 0 (q.keys ++ [q.keys.getD ((a % (q.keys.length : Int)).toNat) []]).length, .ro (rolesE q.roles)]),
        (25, .row 68 (rolesE (q.roles ++ [q.roles.getD ((b % (q.roles.length : Int)).toNat) role0]))), (8, .cells 31 [.int .i64 q.gen, .int .i64 q.expiry, .ro (keysE q.keys), .row 25 0 3 0 (q.roles ++ [q.roles.getD ((b % (q.roles.length : Int)).toNat) role0]).length]),
        (27, .row 68 (rolesE (q.roles.set 0 (roleE (q.roles.getD 0 role0))))), (9, .cells 31 [.int .i64 q.gen, .int .i64 q.expiry, .ro (keysE q.keys), .row 27 0 3 0 (q.roles.set 0 (roleE (q.roles.getD 0 role0))).length])]) [] [(40, none)] 1
    · intro x; exact rfl
    · intro x; exact rfl
    · exact rfl
    · exact rfl
    · (repeat' (first | exact AllP.nil | with_reducible refine AllP.cons ?_ ?_)) <;> first | exact rfl | exact trivial | exact .inl ⟨rfl, rfl, rfl⟩ | exact ⟨rfl, rfl, rfl, rfl⟩ | (intro _ _; simp [pureL, pureS, pureE]; done) | (intro _ _; exact rfl) | (intro _ _; exact pure_nth1 _ (by simp [pureL, pureS, pureE]) _) | (intro _ _; dsimp only; split <;> first | (simp [pureL, pureS, pureE]; done) | exact pure_nth1 _ (by simp [pureL, pureS, pureE]) _) | (intro i hi; rcases i with _ | i; exact ⟨by simp [pureS, pureE], trivial⟩; exact trivial) | (intro i hi; cases i <;> simp [rolesS, pureL, pureS, pureE]; done) | exact row_snoc (fun p : PartL => [.str p.name, .arr 32 (.u8 p.hash)]) r.parts partA part0 | exact row_snoc (fun k : List UInt8 => [.arr 32 (.u8 k)]) q.keys _ [] | exact row_snoc (fun p : RoleL => [.str p.name, .ro (.ints .i64 p.keys), .int .i64 p.need]) q.roles _ role0 | exact hset | exact ⟨rfl, rfl, rfl, by simp [EV.len, EV.sub]⟩ | (simp [EV.len, EV.sub]; done)
    · exact Nat.zero_le _
    intro x hx
    by_cases hx2 : x < 14 + m4
    · have hc : (x : Int) < 14 + a.tmod 4 := by omega
      have hgl := goneN_len x
      repeat' (first
          | ((with_reducible apply Sat.run (X := X64)); exact rfl; (first | exact True.intro | (exact phi) | skip))
          | ((with_reducible apply Sat.drawn); kernel_rfl)
          | ((with_reducible apply DSat.run (X := X64)); exact rfl; (first | exact True.intro | (exact phi) | skip))
          | ((with_reducible apply DSat.fin); kernel_rfl)
          | ((with_reducible apply Sat.cond_t); exact rfl)
          | ((with_reducible apply Sat.cond_f); exact rfl)
          | ((with_reducible apply Sat.cond_pt); exact rfl; (try dsimp only [V.EV.sub, V.EV.len]); first | assumption | omega)
          | ((with_reducible apply Sat.cond_pf); exact rfl; (try dsimp only [V.EV.sub, V.EV.len]); first | assumption | omega)
          | ((with_reducible apply Sat.cond_p); exact rfl; all_goals intro h)
          | ((with_reducible apply Sat.cond); exact rfl; all_goals intro h) | fail)
      refine Sat.back (x + 1) [(40, some 42)] rfl ?_ (by omega) (by omega)
      (repeat' (first | exact AllP.nil | with_reducible refine AllP.cons ?_ ?_)) <;> first | with_reducible exact rfl | exact Int.natCast_add_one _ | exact congrArg (EV.ints IntKind.i64) (goneN_succ x) | exact ⟨rfl, rfl, rfl, by rw [goneN_len]; simp [EV.len, EV.sub, goneN_len]⟩ | (intro _ _; exact rfl) | (intro _ _; exact pure_nth1 _ (by simp [pureL, pureS, pureE]) _) | (intro _ _; dsimp only; split <;> first | (simp [pureL, pureS, pureE]; done) | exact pure_nth1 _ (by simp [pureL, pureS, pureE]) _) | (intro i hi; cases i <;> simp [rolesS, pureL, pureS, pureE]; done) | exact rfl | exact trivial | exact .inl ⟨rfl, rfl, rfl⟩ | (intro _ _; simp [pureL, pureS, pureE]; done) | exact ⟨rfl, rfl, rfl, rfl⟩
    have hx3 : x = 14 + m4 := by omega
    subst hx3
    repeat' (first
        | ((with_reducible apply Sat.run (X := X64)); exact rfl; (first | exact True.intro | (exact phi) | skip))
        | ((with_reducible apply Sat.drawn); kernel_rfl)
        | ((with_reducible apply DSat.run (X := X64)); exact rfl; (first | exact True.intro | (exact phi) | skip))
        | ((with_reducible apply DSat.fin); kernel_rfl) | fail)
    with_reducible apply Sat.cond_pf
    · exact rfl
    · omega
    repeat' (first
        | ((with_reducible apply Sat.run (X := X64)); exact rfl; (first | exact True.intro | (exact phi) | skip))
        | ((with_reducible apply Sat.drawn); kernel_rfl)
        | ((with_reducible apply DSat.run (X := X64)); exact rfl; (first | exact True.intro | (exact phi) | skip))
        | ((with_reducible apply DSat.fin); kernel_rfl) | fail)
    refine Sat.kill [130] rfl ?_
    apply Sat.loop (α := Nat) (fun x => x ≤ 7 + m3) (fun x => 7 + m3 - x) 0 (fun x => [(19, .int .i64 (x : Int))]) (fun x => [(38, .cells 27 [.int .i64 258, .int .i64 1, .int .i64 3, .int .i64 65536, .arr 32 (.u8 (List.replicate 32 0)), .int .i64 1, .arr 32 (.u8 (List.replicate 32 0)), .nils, .row 41 0 33 0 (partsNN x).length]), (41, .row 66 (partsE (partsNN x))),
        (39, .cells 31 [.int .i64 1, .int .i64 2, .row 34 0 32 0 (keysN x).length, .row 36 0 3 0 1]), (34, .row 23 (keysE (keysN x))), (36, .row 68 (rolesE [⟨[97], [0], 1⟩]))]) [32, 33] [(41, none)] 1
    · intro x; exact rfl
    · intro x; exact rfl
    · exact rfl
    · exact rfl
    · (repeat' (first | exact AllP.nil | with_reducible refine AllP.cons ?_ ?_)) <;> first | exact rfl | exact trivial | exact .inl ⟨rfl, rfl, rfl⟩ | exact ⟨rfl, rfl, rfl, rfl⟩ | (intro _ _; simp [pureL, pureS, pureE]; done) | (intro _ _; exact rfl) | (intro _ _; exact pure_nth1 _ (by simp [pureL, pureS, pureE]) _) | (intro _ _; dsimp only; split <;> first | (simp [pureL, pureS, pureE]; done) | exact pure_nth1 _ (by simp [pureL, pureS, pureE]) _) | (intro i hi; rcases i with _ | i; exact ⟨by simp [pureS, pureE], trivial⟩; exact trivial) | (intro i hi; cases i <;> simp [rolesS, pureL, pureS, pureE]; done) | exact row_snoc (fun p : PartL => [.str p.name, .arr 32 (.u8 p.hash)]) r.parts partA part0 | exact row_snoc (fun k : List UInt8 => [.arr 32 (.u8 k)]) q.keys _ [] | exact row_snoc (fun p : RoleL => [.str p.name, .ro (.ints .i64 p.keys), .int .i64 p.need]) q.roles _ role0 | exact hset | exact ⟨rfl, rfl, rfl, by simp [EV.len, EV.sub]⟩ | (simp [EV.len, EV.sub]; done) | (intro i hi; have hi : i < 1 := hi; obtain rfl : i = 0 := (by omega); first | exact rfl | (rw [← hm]; exact rfl)) | exact ⟨rfl, rfl, rfl, goneN_len _⟩
    · exact Nat.zero_le _
    intro x hx
    by_cases hx2 : x < 7 + m3
    · have hc : (x : Int) < 7 + a.tmod 3 := by omega
      have hpl : (partsNN x).length = x := partsNN_len x
      have hkl : (keysN x).length = 1 + x := keysN_len x
      have hpl2 : (partsNN x).length = (partsE (partsNN x)).len := rfl
      have hkl2 : (keysN x).length = (keysE (keysN x)).len := rfl
      have hok : okLen 1 := by unfold okLen; omega
      have hs := sum_at x (by omega)
      have h97 : UInt8.ofNat (IntKind.u8.wrap (97 + (x : Int))).toNat = UInt8.ofNat (97 + x) := by
        rw [wrap_u8]
        congr 1
        omega
      repeat' (first
          | ((with_reducible apply Sat.run (X := X64)); exact rfl; (first | exact True.intro | (exact phi) | skip))
          | ((with_reducible apply Sat.drawn); kernel_rfl)
          | ((with_reducible apply DSat.run (X := X64)); exact rfl; (first | exact True.intro | (exact phi) | skip))
          | ((with_reducible apply DSat.fin); kernel_rfl)
          | ((with_reducible apply Sat.cond_t); exact rfl)
          | ((with_reducible apply Sat.cond_f); exact rfl)
          | ((with_reducible apply Sat.cond_pt); exact rfl; (try dsimp only [V.EV.sub, V.EV.len]); first | assumption | omega)
          | ((with_reducible apply Sat.cond_pf); exact rfl; (try dsimp only [V.EV.sub, V.EV.len]); first | assumption | omega)
          | ((with_reducible apply Sat.cond_p); exact rfl; all_goals intro h)
          | ((with_reducible apply Sat.cond); exact rfl; all_goals intro h)
          | ((with_reducible apply Sat.callR (hs)); exact rfl; exact rfl; exact rfl; kernel_rfl; (exact cnvX); exact rfl)
          | ((with_reducible apply DSat.callR (hs)); exact rfl; exact rfl; exact rfl; kernel_rfl; (exact cnvX); exact rfl) | fail)
      rw [h97]
      refine Sat.back (x + 1) [(41, some 44), (34, some 46)] rfl ?_ (by omega) (by omega)
      (repeat' (first | exact AllP.nil | with_reducible refine AllP.cons ?_ ?_)) <;> first | with_reducible exact rfl | exact Int.natCast_add_one _ | exact ⟨rfl, rfl, rfl, by rw [partsNN_len, partsNN_len]; rfl⟩ | exact ⟨rfl, rfl, rfl, by rw [keysN_len, keysN_len]; rfl⟩ | (rw [partsNN_len, partsNN_len]) | (rw [keysN_len, keysN_len]; omega) | (intro z hz; rw [← keysN_succ]; exact row_snoc2 (fun k : List UInt8 => [.arr 32 (.u8 k)]) (keysN x) _ [] z hz) | (intro z hz; rw [← partsNN_succ]; exact row_snoc2 (fun p : PartL => [.str p.name, .arr 32 (.u8 p.hash)]) (partsNN x) ⟨[UInt8.ofNat (97 + x)], List.replicate 32 0⟩ part0 z hz) | (intro _ _; exact rfl) | (intro _ _; exact pure_nth1 _ (by simp [pureL, pureS, pureE]) _) | (intro _ _; dsimp only; split <;> first | (simp [pureL, pureS, pureE]; done) | exact pure_nth1 _ (by simp [pureL, pureS, pureE]) _) | (intro i hi; cases i <;> simp [rolesS, pureL, pureS, pureE]; done) | exact rfl | exact trivial | exact .inl ⟨rfl, rfl, rfl⟩ | (intro _ _; simp [pureL, pureS, pureE]; done) | exact ⟨rfl, rfl, rfl, rfl⟩
    have hx3 : x = 7 + m3 := by omega
    subst hx3
    repeat' (first
        | ((with_reducible apply Sat.run (X := X64)); exact rfl; (first | exact True.intro | (exact phi) | skip))
        | ((with_reducible apply Sat.drawn); kernel_rfl)
        | ((with_reducible apply DSat.run (X := X64)); exact rfl; (first | exact True.intro | (exact phi) | skip))
        | ((with_reducible apply DSat.fin); kernel_rfl) | fail)
    with_reducible apply Sat.cond_pf
    · exact rfl
    · omega
    have c1 : Fun Tryd.prog [] 12 [.agg [.int .i64 258, .int .i64 1, .int .i64 3, .int .i64 65536, .arr 32 (.u8 (List.replicate 32 0)), .int .i64 1, .arr 32 (.u8 (List.replicate 32 0)), .ro (.ints .i64 (goneN (14 + m4))), .ro (partsE ([]))]] _ := many_c m4 hb4
    have c2 : Fun Tryd.prog [] 12 [.agg [.int .i64 258, .int .i64 1, .int .i64 3, .int .i64 65536, .arr 32 (.u8 (List.replicate 32 0)), .int .i64 1, .arr 32 (.u8 (List.replicate 32 0)), .ro (.ints .i64 ([])), .ro (partsE (partsNN (7 + m3)))]] _ := parts_c m3 hb3
    have c3 : Fun Tryd.prog [] 17 [.agg [.int .i64 1, .int .i64 2, .ro (keysE (keysN (7 + m3))), .ro (rolesE [⟨[97], [0], 1⟩])]] _ := keys_c m3 hb3
    have c4 : Fun Tryd.prog [] 12 [.agg [.int .i64 r.version, .int .i64 r.floor, .int .i64 r.expiry, .int .i64 r.size, .arr 32 (.u8 r.image), .int .i64 r.chunks, .arr 32 (.u8 r.tree), .ro (.ints .i64 (r.gone ++ [xl])), .ro (partsE (r.parts))]] _ := f12_of (gone_last r hv xl hxl)
    have c5 : Fun Tryd.prog [] 12 [.agg [.int .i64 r.version, .int .i64 r.floor, .int .i64 r.expiry, .int .i64 r.size, .arr 32 (.u8 r.image), .int .i64 r.chunks, .arr 32 (.u8 r.tree), .ro (.ints .i64 (r.gone)), .ro (partsE (r.parts ++ [partA]))]] _ := f12_of (parts_last r hv hn)
    have c6 : Fun Tryd.prog [] 17 [.agg [.int .i64 q.gen, .int .i64 q.expiry, .ro (keysE (q.keys ++ [q.keys.getD ((a % (q.keys.length : Int)).toNat) []])), .ro (rolesE (q.roles))]] _ := f17_of (keys_last q ((a % (q.keys.length : Int)).toNat) (by omega))
    have c7 : Fun Tryd.prog [] 17 [.agg [.int .i64 q.gen, .int .i64 q.expiry, .ro (keysE (q.keys)), .ro (rolesE (q.roles ++ [q.roles.getD ((b % (q.roles.length : Int)).toNat) role0]))]] _ := f17_of (roles_last q ((b % (q.roles.length : Int)).toNat) (by omega) (fun i k hk hi => hn2 i _ hk hi))
    have c8 : Fun Tryd.prog [] 17 [.agg [.int .i64 q.gen, .int .i64 q.expiry, .ro (keysE (q.keys)), .ro (rolesE (q.roles.set 0 (roleE (q.roles.getD 0 role0))))]] _ := f17_of (role_keys q hv2)
    have p2 : pureE (partsE (partsNN (7 + m3))) := by intro _ _; simp [pureL, pureS, pureE]
    have p9 : pureE (rolesE [⟨[97], [0], 1⟩]) := by intro _ _; simp [pureL, pureS, pureE]
    have p3 : pureE (keysE (keysN (7 + m3))) := by intro _ _; simp [pureL, pureS, pureE]
    have p5 : pureE (partsE (r.parts ++ [partA])) := by intro _ _; simp [pureL, pureS, pureE]
    have p6 : pureE (keysE (q.keys ++ [q.keys.getD ((a % (q.keys.length : Int)).toNat) []])) := by intro _ _; simp [pureL, pureS, pureE]
    have p7 : pureE (rolesE (q.roles ++ [q.roles.getD ((b % (q.roles.length : Int)).toNat) role0])) := by intro _ _; simp [pureL, pureS, pureE]
    have p8 : pureE (rolesE (q.roles.set 0 (roleE (q.roles.getD 0 role0)))) := by intro _ _; simp [pureL, pureS, pureE]
    repeat' (first
        | ((with_reducible apply Sat.run (X := X64)); exact rfl; (first | exact True.intro | (exact phi) | skip))
        | ((with_reducible apply Sat.drawn); kernel_rfl)
        | ((with_reducible apply DSat.run (X := X64)); exact rfl; (first | exact True.intro | (exact phi) | skip))
        | ((with_reducible apply DSat.fin); kernel_rfl)
        | ((with_reducible apply Sat.callR (c1)); exact rfl; exact rfl; exact rfl; kernel_rfl; (exact cnvX); exact rfl)
        | ((with_reducible apply DSat.callR (c1)); exact rfl; exact rfl; exact rfl; kernel_rfl; (exact cnvX); exact rfl)
        | ((with_reducible apply Sat.callG1 (c2)); exact rfl; exact rfl; exact rfl; exact rfl; kernel_rfl; (intro hG; (exact cnvX)); exact rfl)
        | ((with_reducible apply DSat.callG1 (c2)); exact rfl; exact rfl; exact rfl; exact rfl; kernel_rfl; (intro hG; (exact cnvX)); exact rfl)
        | ((with_reducible apply Sat.callG1 (c3)); exact rfl; exact rfl; exact rfl; exact rfl; kernel_rfl; (intro hG; (exact cnvX)); exact rfl)
        | ((with_reducible apply DSat.callG1 (c3)); exact rfl; exact rfl; exact rfl; exact rfl; kernel_rfl; (intro hG; (exact cnvX)); exact rfl)
        | ((with_reducible apply Sat.callG1 (c4)); exact rfl; exact rfl; exact rfl; exact rfl; kernel_rfl; (intro hG; (exact cnvX)); exact rfl)
        | ((with_reducible apply DSat.callG1 (c4)); exact rfl; exact rfl; exact rfl; exact rfl; kernel_rfl; (intro hG; (exact cnvX)); exact rfl)
        | ((with_reducible apply Sat.callG1 (c5)); exact rfl; exact rfl; exact rfl; exact rfl; kernel_rfl; (intro hG; (exact cnvX)); exact rfl)
        | ((with_reducible apply DSat.callG1 (c5)); exact rfl; exact rfl; exact rfl; exact rfl; kernel_rfl; (intro hG; (exact cnvX)); exact rfl)
        | ((with_reducible apply Sat.callG1 (c6)); exact rfl; exact rfl; exact rfl; exact rfl; kernel_rfl; (intro hG; (exact cnvX)); exact rfl)
        | ((with_reducible apply DSat.callG1 (c6)); exact rfl; exact rfl; exact rfl; exact rfl; kernel_rfl; (intro hG; (exact cnvX)); exact rfl)
        | ((with_reducible apply Sat.callG1 (c7)); exact rfl; exact rfl; exact rfl; exact rfl; kernel_rfl; (intro hG; (exact cnvX)); exact rfl)
        | ((with_reducible apply DSat.callG1 (c7)); exact rfl; exact rfl; exact rfl; exact rfl; kernel_rfl; (intro hG; (exact cnvX)); exact rfl)
        | ((with_reducible apply Sat.callG1 (c8)); exact rfl; exact rfl; exact rfl; exact rfl; kernel_rfl; (intro hG; (exact cnvX)); exact rfl)
        | ((with_reducible apply DSat.callG1 (c8)); exact rfl; exact rfl; exact rfl; exact rfl; kernel_rfl; (intro hG; (exact cnvX)); exact rfl) | fail)
    (refine Sat.fin (Sat.end1 rfl rfl rfl True.intro (.refl _ purX) (by first | exact .inl rfl | exact .inr rfl) (fun _ h => h)) ?_; (refine congrArg SV.bool ?_; simp [EV.len]))
  · intro h
    have hg : r.gone.length = 0 := by have h1 := of_decide_eq_false h; have h2 : ¬ (0 : Int) < (r.gone.length : Int) := h1; omega
    obtain ⟨xl, hxl0⟩ : ∃ x : Int, x = 60001 := ⟨_, rfl⟩
    have hxl : 60000 < xl ∨ ∃ k, k < r.gone.length ∧ xl = r.gone.getD k 0 := .inl (by omega)
    have hset : EV.ints .i64 ([] ++ r.gone ++ List.take 1 (List.drop 0 [60001])) = EV.ints .i64 (r.gone ++ [xl]) := by
      rw [hxl0]
      rfl
    repeat' (first
        | ((with_reducible apply Sat.run (X := X64)); exact rfl; (first | exact True.intro | (exact phi) | skip))
        | ((with_reducible apply Sat.drawn); kernel_rfl)
        | ((with_reducible apply DSat.run (X := X64)); exact rfl; (first | exact True.intro | (exact phi) | skip))
        | ((with_reducible apply DSat.fin); kernel_rfl) | fail)
    refine Sat.tidy rfl ?_
    refine Sat.nest 31 27 (rolesS q.roles) rfl ?_ ?_
    · (repeat' (first | exact AllP.nil | with_reducible refine AllP.cons ?_ ?_)) <;> first | exact rfl | exact trivial | exact ⟨rfl, rfl, rfl, rfl⟩ | (intro _ _; simp [pureL, pureS, pureE]; done) | exact .inl ⟨rfl, by simp [EV.len, EV.sub], rfl⟩ | (intro _ _; exact pure_nth1 _ (by simp [pureL, pureS, pureE]) _) | (intro _ _; dsimp only; split <;> first | (simp [pureL, pureS, pureE]; done) | exact pure_nth1 _ (by simp [pureL, pureS, pureE]) _) | skip
      · intro i hi
        rcases i with _ | i
        · rw [rolesS_zero q.roles (by omega)]
          refine ⟨_, rfl, ?_⟩
          simp only [List.cons_append, List.nil_append]
          (repeat' (first | exact AllP.nil | with_reducible refine AllP.cons ?_ ?_)) <;> first | exact rfl | exact trivial | (refine .inl ⟨?_, ?_, ?_⟩ <;> first | trivial | rfl | (simp [EV.len, EV.sub]; done))
        · rw [rolesS_succ]
          refine ⟨_, rfl, ?_⟩
          simp only [List.cons_append, List.nil_append]
          (repeat' (first | exact AllP.nil | with_reducible refine AllP.cons ?_ ?_)) <;> first | exact rfl | exact trivial
    repeat' (first
        | ((with_reducible apply Sat.run (X := X64)); exact rfl; (first | exact True.intro | (exact phi) | skip))
        | ((with_reducible apply Sat.drawn); kernel_rfl)
        | ((with_reducible apply DSat.run (X := X64)); exact rfl; (first | exact True.intro | (exact phi) | skip))
        | ((with_reducible apply DSat.fin); kernel_rfl)
        | ((with_reducible apply Sat.call0 (small_nil)); exact rfl; exact rfl; kernel_rfl; exact rfl)
        | ((with_reducible apply DSat.call0 (small_nil)); exact rfl; exact rfl; kernel_rfl; exact rfl)
        | ((with_reducible apply DSat.callM0 (small_nil)); exact rfl; exact rfl; (first | exact rfl | assumption | (decide +kernel)); exact rfl; kernel_rfl; exact rfl)
        | ((with_reducible apply Sat.inl 7 [] Tryd.func30 Tryd.ntmps30); exact rfl; exact rfl; kernel_rfl; exact rfl; exact rfl; exact rfl; exact rfl; ((repeat' (first | exact AllP.nil | with_reducible refine AllP.cons ?_ ?_)) <;> (first | exact True.intro | exact purX)); intro _ _) | fail)
    generalize hm : List.replicate 32 (7 : UInt8) = m at hl hvv
    apply Sat.loop (α := Nat) (fun x => x ≤ 32) (fun x => 32 - x) 0 (fun x => [(2, .int .i64 (x : Int))]) (fun x => [(33, .cells 23 [.arr 32 (.u8 (m.take x ++ List.replicate (32 - x) 0))])]) [] [] 0
    · intro x; exact rfl
    · intro x; exact rfl
    · exact rfl
    · exact rfl
    · (repeat' (first | exact AllP.nil | with_reducible refine AllP.cons ?_ ?_)) <;> first | exact rfl | exact trivial | exact .inl ⟨rfl, rfl, rfl⟩ | exact ⟨rfl, rfl, rfl, rfl⟩ | (intro _ _; simp [pureL, pureS, pureE]; done) | (intro _ _; exact rfl) | (intro _ _; exact pure_nth1 _ (by simp [pureL, pureS, pureE]) _) | (intro _ _; dsimp only; split <;> first | (simp [pureL, pureS, pureE]; done) | exact pure_nth1 _ (by simp [pureL, pureS, pureE]) _) | (intro i hi; rcases i with _ | i; exact ⟨by simp [pureS, pureE], trivial⟩; exact trivial) | (intro i hi; cases i <;> simp [rolesS, pureL, pureS, pureE]; done)
    · exact Nat.zero_le _
    intro x hx
    by_cases hx2 : x < 32
    · have e := set_step m x hl hx2
      rw [hvv x hx2] at e
      repeat' (first
          | ((with_reducible apply Sat.run (X := X64)); exact rfl; (first | exact True.intro | (exact phi) | skip))
          | ((with_reducible apply Sat.drawn); kernel_rfl)
          | ((with_reducible apply DSat.run (X := X64)); exact rfl; (first | exact True.intro | (exact phi) | skip))
          | ((with_reducible apply DSat.fin); kernel_rfl)
          | ((with_reducible apply Sat.cond_t); exact rfl)
          | ((with_reducible apply Sat.cond_f); exact rfl)
          | ((with_reducible apply Sat.cond_pt); exact rfl; (try dsimp only [V.EV.sub, V.EV.len]); first | assumption | omega)
          | ((with_reducible apply Sat.cond_pf); exact rfl; (try dsimp only [V.EV.sub, V.EV.len]); first | assumption | omega)
          | ((with_reducible apply Sat.cond_p); exact rfl; all_goals intro h)
          | ((with_reducible apply Sat.cond); exact rfl; all_goals intro h) | fail)
      refine Sat.back (x + 1) [] rfl ?_ (by omega) (by omega)
      (repeat' (first | exact AllP.nil | with_reducible refine AllP.cons ?_ ?_)) <;> first | with_reducible exact rfl | exact Int.natCast_add_one _ | exact congrArg EV.u8 e | exact rfl | exact trivial | exact ⟨rfl, rfl, rfl, rfl⟩ | (intro _ _; simp [pureL, pureS, pureE]; done) | (intro _ _; exact rfl) | (intro _ _; exact pure_nth1 _ (by simp [pureL, pureS, pureE]) _) | (intro _ _; dsimp only; split <;> first | (simp [pureL, pureS, pureE]; done) | exact pure_nth1 _ (by simp [pureL, pureS, pureE]) _) | (intro i hi; cases i <;> simp [rolesS, pureL, pureS, pureE]; done)
    have hx3 : x = 32 := by omega
    subst hx3
    repeat' (first
        | ((with_reducible apply Sat.run (X := X64)); exact rfl; (first | exact True.intro | (exact phi) | skip))
        | ((with_reducible apply Sat.drawn); kernel_rfl)
        | ((with_reducible apply DSat.run (X := X64)); exact rfl; (first | exact True.intro | (exact phi) | skip))
        | ((with_reducible apply DSat.fin); kernel_rfl) | fail)
    with_reducible apply Sat.cond_f
    · exact rfl
    have e32 : m.take 32 ++ List.replicate (32 - 32) 0 = m := by rw [List.take_of_length_le (by omega)]; simp
    refine Sat.runN (X := X64) 6 rfl True.intro ?_
    rw [e32]
    refine Sat.enter ?_
    refine Sat.one (X := X64) rfl True.intro ?_
    refine Sat.one (X := X64) rfl True.intro ?_
    refine Sat.one (X := X64) rfl True.intro ?_
    refine Sat.one (X := X64) rfl True.intro ?_
    refine Sat.freezeR true 35 rfl ?_ ?_
    · (repeat' (first | exact AllP.nil | with_reducible refine AllP.cons ?_ ?_)) <;> first | exact rfl | exact trivial | exact .inl ⟨rfl, rfl, rfl⟩ | exact ⟨rfl, rfl, rfl, rfl⟩ | (intro _ _; simp [pureL, pureS, pureE]; done) | (intro _ _; exact rfl) | (intro _ _; exact pure_nth1 _ (by simp [pureL, pureS, pureE]) _) | (intro _ _; dsimp only; split <;> first | (simp [pureL, pureS, pureE]; done) | exact pure_nth1 _ (by simp [pureL, pureS, pureE]) _) | (intro i hi; rcases i with _ | i; exact ⟨by simp [pureS, pureE], trivial⟩; exact trivial) | (intro i hi; cases i <;> simp [rolesS, pureL, pureS, pureE]; done)
    repeat' (first
        | ((with_reducible apply Sat.run (X := X64)); exact rfl; (first | exact True.intro | (exact phi) | skip))
        | ((with_reducible apply Sat.drawn); kernel_rfl)
        | ((with_reducible apply DSat.run (X := X64)); exact rfl; (first | exact True.intro | (exact phi) | skip))
        | ((with_reducible apply DSat.fin); kernel_rfl)
        | ((with_reducible apply Sat.cond_t); exact rfl)
        | ((with_reducible apply Sat.cond_f); exact rfl)
        | ((with_reducible apply Sat.cond_pt); exact rfl; (try dsimp only [V.EV.sub, V.EV.len]); first | assumption | omega)
        | ((with_reducible apply Sat.cond_pf); exact rfl; (try dsimp only [V.EV.sub, V.EV.len]); first | assumption | omega)
        | ((with_reducible apply Sat.cond_p); exact rfl; all_goals intro h)
        | ((with_reducible apply Sat.cond); exact rfl; all_goals intro h)
        | ((with_reducible apply Sat.out1 (C := ⟨_, _, _, _, _, _, _, _, _⟩)); exact rfl; (first | exact .inl rfl | exact .inr rfl); exact rfl; (exact phi); exact rfl)
        | ((with_reducible apply Sat.out0 (C := ⟨_, _, _, _, _, _, _, _, _⟩)); exact rfl; (first | exact .inl rfl | exact .inr rfl); exact rfl)
        | ((with_reducible apply Sat.out2 (C := ⟨_, _, _, _, _, _, _, _, _⟩)); exact rfl; (first | exact .inl rfl | exact .inr rfl); exact rfl; (exact phi); exact rfl; (exact phi); exact rfl) | fail)
    apply Sat.loop (α := Nat) (fun x => x ≤ 14 + m4) (fun x => 14 + m4 - x) 0 (fun x => [(18, .int .i64 (x : Int))]) (fun x => [(37, .cells 27 [.int .i64 258, .int .i64 1, .int .i64 3, .int .i64 65536, .arr 32 (.u8 (List.replicate 32 0)), .int .i64 1, .arr 32 (.u8 (List.replicate 32 0)), .row 40 0 1 0 (goneN x).length, .nils]), (40, .row 3 (.ints .i64 (goneN x))),
        (13, .row 3 (.ints .i64 (r.gone ++ [xl]))), (5, .cells 27 [.int .i64 r.version, .int .i64 r.floor, .int .i64 r.expiry, .int .i64 r.size, .arr 32 (.u8 r.image), .int .i64 r.chunks, .arr 32 (.u8 r.tree), .row 13 0 1 0 (r.gone ++ [xl]).length, .ro (partsE r.parts)]),
        (17, .row 66 (partsE (r.parts ++ [partA]))), (6, .cells 27 [.int .i64 r.version, .int .i64 r.floor, .int .i64 r.expiry, .int .i64 r.size, .arr 32 (.u8 r.image), .int .i64 r.chunks, .arr 32 (.u8 r.tree), .ro (.ints .i64 r.gone), .row 17 0 33 0 (r.parts ++ [partA]).length]),
        (21, .row 23 (keysE (q.keys ++ [q.keys.getD ((a % (q.keys.length : Int)).toNat) []]))), (7, .cells 31 [.int .i64 q.gen, .int .i64 q.expiry, .row 21 0 32 0 (q.keys ++ [q.keys.getD ((a % (q.keys.length : Int)).toNat) []]).length, .ro (rolesE q.roles)]),
        (25, .row 68 (rolesE (q.roles ++ [q.roles.getD ((b % (q.roles.length : Int)).toNat) role0]))), (8, .cells 31 [.int .i64 q.gen, .int .i64 q.expiry, .ro (keysE q.keys), .row 25 0 3 0 (q.roles ++ [q.roles.getD ((b % (q.roles.length : Int)).toNat) role0]).length]),
        (27, .row 68 (rolesE (q.roles.set 0 (roleE (q.roles.getD 0 role0))))), (9, .cells 31 [.int .i64 q.gen, .int .i64 q.expiry, .ro (keysE q.keys), .row 27 0 3 0 (q.roles.set 0 (roleE (q.roles.getD 0 role0))).length])]) [] [(40, none)] 1
    · intro x; exact rfl
    · intro x; exact rfl
    · exact rfl
    · exact rfl
    · (repeat' (first | exact AllP.nil | with_reducible refine AllP.cons ?_ ?_)) <;> first | exact rfl | exact trivial | exact .inl ⟨rfl, rfl, rfl⟩ | exact ⟨rfl, rfl, rfl, rfl⟩ | (intro _ _; simp [pureL, pureS, pureE]; done) | (intro _ _; exact rfl) | (intro _ _; exact pure_nth1 _ (by simp [pureL, pureS, pureE]) _) | (intro _ _; dsimp only; split <;> first | (simp [pureL, pureS, pureE]; done) | exact pure_nth1 _ (by simp [pureL, pureS, pureE]) _) | (intro i hi; rcases i with _ | i; exact ⟨by simp [pureS, pureE], trivial⟩; exact trivial) | (intro i hi; cases i <;> simp [rolesS, pureL, pureS, pureE]; done) | exact row_snoc (fun p : PartL => [.str p.name, .arr 32 (.u8 p.hash)]) r.parts partA part0 | exact row_snoc (fun k : List UInt8 => [.arr 32 (.u8 k)]) q.keys _ [] | exact row_snoc (fun p : RoleL => [.str p.name, .ro (.ints .i64 p.keys), .int .i64 p.need]) q.roles _ role0 | exact hset | exact ⟨rfl, rfl, rfl, by simp [EV.len, EV.sub]⟩ | (simp [EV.len, EV.sub]; done)
    · exact Nat.zero_le _
    intro x hx
    by_cases hx2 : x < 14 + m4
    · have hc : (x : Int) < 14 + a.tmod 4 := by omega
      have hgl := goneN_len x
      repeat' (first
          | ((with_reducible apply Sat.run (X := X64)); exact rfl; (first | exact True.intro | (exact phi) | skip))
          | ((with_reducible apply Sat.drawn); kernel_rfl)
          | ((with_reducible apply DSat.run (X := X64)); exact rfl; (first | exact True.intro | (exact phi) | skip))
          | ((with_reducible apply DSat.fin); kernel_rfl)
          | ((with_reducible apply Sat.cond_t); exact rfl)
          | ((with_reducible apply Sat.cond_f); exact rfl)
          | ((with_reducible apply Sat.cond_pt); exact rfl; (try dsimp only [V.EV.sub, V.EV.len]); first | assumption | omega)
          | ((with_reducible apply Sat.cond_pf); exact rfl; (try dsimp only [V.EV.sub, V.EV.len]); first | assumption | omega)
          | ((with_reducible apply Sat.cond_p); exact rfl; all_goals intro h)
          | ((with_reducible apply Sat.cond); exact rfl; all_goals intro h) | fail)
      refine Sat.back (x + 1) [(40, some 42)] rfl ?_ (by omega) (by omega)
      (repeat' (first | exact AllP.nil | with_reducible refine AllP.cons ?_ ?_)) <;> first | with_reducible exact rfl | exact Int.natCast_add_one _ | exact congrArg (EV.ints IntKind.i64) (goneN_succ x) | exact ⟨rfl, rfl, rfl, by rw [goneN_len]; simp [EV.len, EV.sub, goneN_len]⟩ | (intro _ _; exact rfl) | (intro _ _; exact pure_nth1 _ (by simp [pureL, pureS, pureE]) _) | (intro _ _; dsimp only; split <;> first | (simp [pureL, pureS, pureE]; done) | exact pure_nth1 _ (by simp [pureL, pureS, pureE]) _) | (intro i hi; cases i <;> simp [rolesS, pureL, pureS, pureE]; done) | exact rfl | exact trivial | exact .inl ⟨rfl, rfl, rfl⟩ | (intro _ _; simp [pureL, pureS, pureE]; done) | exact ⟨rfl, rfl, rfl, rfl⟩
    have hx3 : x = 14 + m4 := by omega
    subst hx3
    repeat' (first
        | ((with_reducible apply Sat.run (X := X64)); exact rfl; (first | exact True.intro | (exact phi) | skip))
        | ((with_reducible apply Sat.drawn); kernel_rfl)
        | ((with_reducible apply DSat.run (X := X64)); exact rfl; (first | exact True.intro | (exact phi) | skip))
        | ((with_reducible apply DSat.fin); kernel_rfl) | fail)
    with_reducible apply Sat.cond_pf
    · exact rfl
    · omega
    repeat' (first
        | ((with_reducible apply Sat.run (X := X64)); exact rfl; (first | exact True.intro | (exact phi) | skip))
        | ((with_reducible apply Sat.drawn); kernel_rfl)
        | ((with_reducible apply DSat.run (X := X64)); exact rfl; (first | exact True.intro | (exact phi) | skip))
        | ((with_reducible apply DSat.fin); kernel_rfl) | fail)
    refine Sat.kill [130] rfl ?_
    apply Sat.loop (α := Nat) (fun x => x ≤ 7 + m3) (fun x => 7 + m3 - x) 0 (fun x => [(19, .int .i64 (x : Int))]) (fun x => [(38, .cells 27 [.int .i64 258, .int .i64 1, .int .i64 3, .int .i64 65536, .arr 32 (.u8 (List.replicate 32 0)), .int .i64 1, .arr 32 (.u8 (List.replicate 32 0)), .nils, .row 41 0 33 0 (partsNN x).length]), (41, .row 66 (partsE (partsNN x))),
        (39, .cells 31 [.int .i64 1, .int .i64 2, .row 34 0 32 0 (keysN x).length, .row 36 0 3 0 1]), (34, .row 23 (keysE (keysN x))), (36, .row 68 (rolesE [⟨[97], [0], 1⟩]))]) [32, 33] [(41, none)] 1
    · intro x; exact rfl
    · intro x; exact rfl
    · exact rfl
    · exact rfl
    · (repeat' (first | exact AllP.nil | with_reducible refine AllP.cons ?_ ?_)) <;> first | exact rfl | exact trivial | exact .inl ⟨rfl, rfl, rfl⟩ | exact ⟨rfl, rfl, rfl, rfl⟩ | (intro _ _; simp [pureL, pureS, pureE]; done) | (intro _ _; exact rfl) | (intro _ _; exact pure_nth1 _ (by simp [pureL, pureS, pureE]) _) | (intro _ _; dsimp only; split <;> first | (simp [pureL, pureS, pureE]; done) | exact pure_nth1 _ (by simp [pureL, pureS, pureE]) _) | (intro i hi; rcases i with _ | i; exact ⟨by simp [pureS, pureE], trivial⟩; exact trivial) | (intro i hi; cases i <;> simp [rolesS, pureL, pureS, pureE]; done) | exact row_snoc (fun p : PartL => [.str p.name, .arr 32 (.u8 p.hash)]) r.parts partA part0 | exact row_snoc (fun k : List UInt8 => [.arr 32 (.u8 k)]) q.keys _ [] | exact row_snoc (fun p : RoleL => [.str p.name, .ro (.ints .i64 p.keys), .int .i64 p.need]) q.roles _ role0 | exact hset | exact ⟨rfl, rfl, rfl, by simp [EV.len, EV.sub]⟩ | (simp [EV.len, EV.sub]; done) | (intro i hi; have hi : i < 1 := hi; obtain rfl : i = 0 := (by omega); first | exact rfl | (rw [← hm]; exact rfl)) | exact ⟨rfl, rfl, rfl, goneN_len _⟩
    · exact Nat.zero_le _
    intro x hx
    by_cases hx2 : x < 7 + m3
    · have hc : (x : Int) < 7 + a.tmod 3 := by omega
      have hpl : (partsNN x).length = x := partsNN_len x
      have hkl : (keysN x).length = 1 + x := keysN_len x
      have hpl2 : (partsNN x).length = (partsE (partsNN x)).len := rfl
      have hkl2 : (keysN x).length = (keysE (keysN x)).len := rfl
      have hok : okLen 1 := by unfold okLen; omega
      have hs := sum_at x (by omega)
      have h97 : UInt8.ofNat (IntKind.u8.wrap (97 + (x : Int))).toNat = UInt8.ofNat (97 + x) := by
        rw [wrap_u8]
        congr 1
        omega
      repeat' (first
          | ((with_reducible apply Sat.run (X := X64)); exact rfl; (first | exact True.intro | (exact phi) | skip))
          | ((with_reducible apply Sat.drawn); kernel_rfl)
          | ((with_reducible apply DSat.run (X := X64)); exact rfl; (first | exact True.intro | (exact phi) | skip))
          | ((with_reducible apply DSat.fin); kernel_rfl)
          | ((with_reducible apply Sat.cond_t); exact rfl)
          | ((with_reducible apply Sat.cond_f); exact rfl)
          | ((with_reducible apply Sat.cond_pt); exact rfl; (try dsimp only [V.EV.sub, V.EV.len]); first | assumption | omega)
          | ((with_reducible apply Sat.cond_pf); exact rfl; (try dsimp only [V.EV.sub, V.EV.len]); first | assumption | omega)
          | ((with_reducible apply Sat.cond_p); exact rfl; all_goals intro h)
          | ((with_reducible apply Sat.cond); exact rfl; all_goals intro h)
          | ((with_reducible apply Sat.callR (hs)); exact rfl; exact rfl; exact rfl; kernel_rfl; (exact cnvX); exact rfl)
          | ((with_reducible apply DSat.callR (hs)); exact rfl; exact rfl; exact rfl; kernel_rfl; (exact cnvX); exact rfl) | fail)
      rw [h97]
      refine Sat.back (x + 1) [(41, some 44), (34, some 46)] rfl ?_ (by omega) (by omega)
      (repeat' (first | exact AllP.nil | with_reducible refine AllP.cons ?_ ?_)) <;> first | with_reducible exact rfl | exact Int.natCast_add_one _ | exact ⟨rfl, rfl, rfl, by rw [partsNN_len, partsNN_len]; rfl⟩ | exact ⟨rfl, rfl, rfl, by rw [keysN_len, keysN_len]; rfl⟩ | (rw [partsNN_len, partsNN_len]) | (rw [keysN_len, keysN_len]; omega) | (intro z hz; rw [← keysN_succ]; exact row_snoc2 (fun k : List UInt8 => [.arr 32 (.u8 k)]) (keysN x) _ [] z hz) | (intro z hz; rw [← partsNN_succ]; exact row_snoc2 (fun p : PartL => [.str p.name, .arr 32 (.u8 p.hash)]) (partsNN x) ⟨[UInt8.ofNat (97 + x)], List.replicate 32 0⟩ part0 z hz) | (intro _ _; exact rfl) | (intro _ _; exact pure_nth1 _ (by simp [pureL, pureS, pureE]) _) | (intro _ _; dsimp only; split <;> first | (simp [pureL, pureS, pureE]; done) | exact pure_nth1 _ (by simp [pureL, pureS, pureE]) _) | (intro i hi; cases i <;> simp [rolesS, pureL, pureS, pureE]; done) | exact rfl | exact trivial | exact .inl ⟨rfl, rfl, rfl⟩ | (intro _ _; simp [pureL, pureS, pureE]; done) | exact ⟨rfl, rfl, rfl, rfl⟩
    have hx3 : x = 7 + m3 := by omega
    subst hx3
    repeat' (first
        | ((with_reducible apply Sat.run (X := X64)); exact rfl; (first | exact True.intro | (exact phi) | skip))
        | ((with_reducible apply Sat.drawn); kernel_rfl)
        | ((with_reducible apply DSat.run (X := X64)); exact rfl; (first | exact True.intro | (exact phi) | skip))
        | ((with_reducible apply DSat.fin); kernel_rfl) | fail)
    with_reducible apply Sat.cond_pf
    · exact rfl
    · omega
    have c1 : Fun Tryd.prog [] 12 [.agg [.int .i64 258, .int .i64 1, .int .i64 3, .int .i64 65536, .arr 32 (.u8 (List.replicate 32 0)), .int .i64 1, .arr 32 (.u8 (List.replicate 32 0)), .ro (.ints .i64 (goneN (14 + m4))), .ro (partsE ([]))]] _ := many_c m4 hb4
    have c2 : Fun Tryd.prog [] 12 [.agg [.int .i64 258, .int .i64 1, .int .i64 3, .int .i64 65536, .arr 32 (.u8 (List.replicate 32 0)), .int .i64 1, .arr 32 (.u8 (List.replicate 32 0)), .ro (.ints .i64 ([])), .ro (partsE (partsNN (7 + m3)))]] _ := parts_c m3 hb3
    have c3 : Fun Tryd.prog [] 17 [.agg [.int .i64 1, .int .i64 2, .ro (keysE (keysN (7 + m3))), .ro (rolesE [⟨[97], [0], 1⟩])]] _ := keys_c m3 hb3
    have c4 : Fun Tryd.prog [] 12 [.agg [.int .i64 r.version, .int .i64 r.floor, .int .i64 r.expiry, .int .i64 r.size, .arr 32 (.u8 r.image), .int .i64 r.chunks, .arr 32 (.u8 r.tree), .ro (.ints .i64 (r.gone ++ [xl])), .ro (partsE (r.parts))]] _ := f12_of (gone_last r hv xl hxl)
    have c5 : Fun Tryd.prog [] 12 [.agg [.int .i64 r.version, .int .i64 r.floor, .int .i64 r.expiry, .int .i64 r.size, .arr 32 (.u8 r.image), .int .i64 r.chunks, .arr 32 (.u8 r.tree), .ro (.ints .i64 (r.gone)), .ro (partsE (r.parts ++ [partA]))]] _ := f12_of (parts_last r hv hn)
    have c6 : Fun Tryd.prog [] 17 [.agg [.int .i64 q.gen, .int .i64 q.expiry, .ro (keysE (q.keys ++ [q.keys.getD ((a % (q.keys.length : Int)).toNat) []])), .ro (rolesE (q.roles))]] _ := f17_of (keys_last q ((a % (q.keys.length : Int)).toNat) (by omega))
    have c7 : Fun Tryd.prog [] 17 [.agg [.int .i64 q.gen, .int .i64 q.expiry, .ro (keysE (q.keys)), .ro (rolesE (q.roles ++ [q.roles.getD ((b % (q.roles.length : Int)).toNat) role0]))]] _ := f17_of (roles_last q ((b % (q.roles.length : Int)).toNat) (by omega) (fun i k hk hi => hn2 i _ hk hi))
    have c8 : Fun Tryd.prog [] 17 [.agg [.int .i64 q.gen, .int .i64 q.expiry, .ro (keysE (q.keys)), .ro (rolesE (q.roles.set 0 (roleE (q.roles.getD 0 role0))))]] _ := f17_of (role_keys q hv2)
    have p2 : pureE (partsE (partsNN (7 + m3))) := by intro _ _; simp [pureL, pureS, pureE]
    have p9 : pureE (rolesE [⟨[97], [0], 1⟩]) := by intro _ _; simp [pureL, pureS, pureE]
    have p3 : pureE (keysE (keysN (7 + m3))) := by intro _ _; simp [pureL, pureS, pureE]
    have p5 : pureE (partsE (r.parts ++ [partA])) := by intro _ _; simp [pureL, pureS, pureE]
    have p6 : pureE (keysE (q.keys ++ [q.keys.getD ((a % (q.keys.length : Int)).toNat) []])) := by intro _ _; simp [pureL, pureS, pureE]
    have p7 : pureE (rolesE (q.roles ++ [q.roles.getD ((b % (q.roles.length : Int)).toNat) role0])) := by intro _ _; simp [pureL, pureS, pureE]
    have p8 : pureE (rolesE (q.roles.set 0 (roleE (q.roles.getD 0 role0)))) := by intro _ _; simp [pureL, pureS, pureE]
    repeat' (first
        | ((with_reducible apply Sat.run (X := X64)); exact rfl; (first | exact True.intro | (exact phi) | skip))
        | ((with_reducible apply Sat.drawn); kernel_rfl)
        | ((with_reducible apply DSat.run (X := X64)); exact rfl; (first | exact True.intro | (exact phi) | skip))
        | ((with_reducible apply DSat.fin); kernel_rfl)
        | ((with_reducible apply Sat.callR (c1)); exact rfl; exact rfl; exact rfl; kernel_rfl; (exact cnvX); exact rfl)
        | ((with_reducible apply DSat.callR (c1)); exact rfl; exact rfl; exact rfl; kernel_rfl; (exact cnvX); exact rfl)
        | ((with_reducible apply Sat.callG1 (c2)); exact rfl; exact rfl; exact rfl; exact rfl; kernel_rfl; (intro hG; (exact cnvX)); exact rfl)
        | ((with_reducible apply DSat.callG1 (c2)); exact rfl; exact rfl; exact rfl; exact rfl; kernel_rfl; (intro hG; (exact cnvX)); exact rfl)
        | ((with_reducible apply Sat.callG1 (c3)); exact rfl; exact rfl; exact rfl; exact rfl; kernel_rfl; (intro hG; (exact cnvX)); exact rfl)
        | ((with_reducible apply DSat.callG1 (c3)); exact rfl; exact rfl; exact rfl; exact rfl; kernel_rfl; (intro hG; (exact cnvX)); exact rfl)
        | ((with_reducible apply Sat.callG1 (c4)); exact rfl; exact rfl; exact rfl; exact rfl; kernel_rfl; (intro hG; (exact cnvX)); exact rfl)
        | ((with_reducible apply DSat.callG1 (c4)); exact rfl; exact rfl; exact rfl; exact rfl; kernel_rfl; (intro hG; (exact cnvX)); exact rfl)
        | ((with_reducible apply Sat.callG1 (c5)); exact rfl; exact rfl; exact rfl; exact rfl; kernel_rfl; (intro hG; (exact cnvX)); exact rfl)
        | ((with_reducible apply DSat.callG1 (c5)); exact rfl; exact rfl; exact rfl; exact rfl; kernel_rfl; (intro hG; (exact cnvX)); exact rfl)
        | ((with_reducible apply Sat.callG1 (c6)); exact rfl; exact rfl; exact rfl; exact rfl; kernel_rfl; (intro hG; (exact cnvX)); exact rfl)
        | ((with_reducible apply DSat.callG1 (c6)); exact rfl; exact rfl; exact rfl; exact rfl; kernel_rfl; (intro hG; (exact cnvX)); exact rfl)
        | ((with_reducible apply Sat.callG1 (c7)); exact rfl; exact rfl; exact rfl; exact rfl; kernel_rfl; (intro hG; (exact cnvX)); exact rfl)
        | ((with_reducible apply DSat.callG1 (c7)); exact rfl; exact rfl; exact rfl; exact rfl; kernel_rfl; (intro hG; (exact cnvX)); exact rfl)
        | ((with_reducible apply Sat.callG1 (c8)); exact rfl; exact rfl; exact rfl; exact rfl; kernel_rfl; (intro hG; (exact cnvX)); exact rfl)
        | ((with_reducible apply DSat.callG1 (c8)); exact rfl; exact rfl; exact rfl; exact rfl; kernel_rfl; (intro hG; (exact cnvX)); exact rfl) | fail)
    (refine Sat.fin (Sat.end1 rfl rfl rfl True.intro (.refl _ purX) (by first | exact .inl rfl | exact .inr rfl) (fun _ h => h)) ?_; (refine congrArg SV.bool ?_; simp [EV.len]))
end Go.Proofs.YtegbdcadlmefgaaDoor
end
section
namespace Go.Proofs.YtegbdcadlmefgaaDoor
open Go.RowKit Go.ChangeShapes Go.WideShapes V
set_option maxRecDepth 100000
set_option maxHeartbeats 8000000
theorem metaOrders_step (os : Os) (started : os.Started) (H : Type) (enc : TypeId × Value → H) (F : Stop.Interp) :
    ReturnsInHanded {} Tryd.checked os 10 .any ((OpenSpec.ofChange Rows.metaOrdersSpec).preRow enc Tryd.prog Tryd.f10 Rows.metaOrdersRow.domain false Rows.metaOrdersRow.laid) (((OpenSpec.ofChange Rows.metaOrdersSpec).at F).post enc Tryd.prog Tryd.f10 false true false false) := by
  refine law_step (C := Tryd.checked) (fn := Tryd.f10) (s := OpenSpec.ofChange Rows.metaOrdersSpec) (F := F) (tb := 4) [] own started (by kernel_rfl) Tryd.func10 laidOut (by kernel_rfl) (by kernel_rfl) (by kernel_rfl) Tryd.underlying4 rfl ?_
    (row_witness (World.doorLaid Tryd.prog 300 os) #[.agg #[.int .u16 0, .int .u16 0, .int .u32 0, .int .u32 0, .int .u8 0, .int .u8 0, .slice none 0 0, .slice none 0 0], .agg #[.int .u16 0, .int .u32 0, .slice none 0 0, .slice none 0 0], .agg #[.int .u8 0, .int .u8 0]] rfl (by kernel_rfl) (by kernel_rfl) (by kernel_rfl) (by kernel_rfl) (by kernel_rfl) (door_met os _)) errs_glob ?_
  · intro ds hl
    obtain ⟨d1, d2, d3, rfl⟩ := list_len3 hl
    rfl
  · intro W vs ds hl ht hk
    obtain ⟨d1, d2, d3, rfl⟩ := list_len3 hl
    refine Fun.facts fun hf => ?_
    show Fun _ _ _ [.agg (rawSV d1), .agg (rawQSV d2), .agg [.int .u8 (iOf (nthD (ptsD d3) 0)), .int .u8 (iOf (nthD (ptsD d3) 1))]] _
    rw [rawD_l d1 hf.1, rawQD_l d2 hf.2.1]
    exact orders_law (rawD d1) (rawQD d2) _ _
theorem metaOrders_said : Rows.MetaOrdersSaid :=
  OpenClaim.holds_of_cond 10 Tryd.f10 rfl rfl rfl rfl rfl rfl rfl ⟨rfl, rfl, rfl, rfl, rfl⟩ rfl rfl rfl rfl rfl (by kernel_rfl) Tryd.func10 (by kernel_rfl)
    (of_decide_eq_true (by kernel_rfl)) (by unfold Func.isWrapper; first | (rw [if_pos (by decide +kernel)]; kernel_rfl) | (rw [if_neg (by decide +kernel)]; exact ⟨rfl, rfl⟩))
    (fun os started H enc _ F => by rw [OpenClaim.pre_eq_preRow]; exact metaOrders_step os started H enc F)
theorem metaOrders_plain (f : FuncId) (fn : Func) (hf : Tryd.pinned.checked.prog.funcNamed "inlay/inlaylaw26.MetaOrders" = some f) (hfn : Tryd.pinned.checked.prog.funcs[f]? = some fn) :
    false = Tryd.pinned.checked.prog.looks [] ∧ ∀ (j : Nat) t, fn.params[j]? = some t → Tryd.pinned.checked.prog.wantsStandIn t = false := by
  obtain rfl : f = 10 := Option.some.inj ((show Tryd.prog.funcNamed "inlay/inlaylaw26.MetaOrders" = some 10 by kernel_rfl).symm.trans hf) |>.symm
  obtain rfl : fn = Tryd.f10 := (Option.some.inj (Tryd.func10.symm.trans hfn)).symm
  refine ⟨by kernel_rfl, fun j t ht => ?_⟩
  have hall : Tryd.f10.params.all (fun t => !(Tryd.prog.wantsStandIn t)) = true := by kernel_rfl
  have := (Array.all_eq_true_iff_forall_mem.1 hall) t (Array.mem_of_getElem? ht)
  have h2 : Tryd.prog.wantsStandIn t = false := by simpa using this
  exact h2
/-- The card. -/
theorem metaOrders_card : Rows.MetaOrdersCardSaid :=
  Claim7.holds_tied_plain_at .later [] _ _ _ _ metaOrders_said (fun _ h => by cases h) (by kernel_rfl) (fun _ h => by cases h) metaOrders_row_tie rfl ⟨rfl, rfl⟩ (by kernel_rfl) rfl metaOrders_plain (by kernel_rfl)
end Go.Proofs.YtegbdcadlmefgaaDoor
end
