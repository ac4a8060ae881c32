/-
  Joined texts: OA: Meta: what is written is read again (MetaRoundTrips); different releases and roots have different bytes (MetaDiffers).
  NZ: Meta: what the rows list (the error value of package bytes), as the door lays it.
  NR: Meta: what the readings of the arguments say, as releases, roots and raw numbers.
  OB: Meta: different releases and roots have different bytes (MetaDiffers).
  OT: Meta: the raw numbers that the readings of the arguments tell.
  OS: Meta: how long the bytes of releases and roots are (plain).
  Bf: Operations of a region that draws its order, under a guard that is known not to hold; a row that stands in the elements of another is given up.
  OE: Meta: bytes are read as by the reference (MetaParses).
  OF: Meta: bytes of a root are read as by the reference (MetaRootParses).
  OG: Meta: beginnings of bytes, and bytes followed by others, are refused; the number of bytes (MetaLengths).
  Z6: The law inlaylaw26.MetaLengths returns true for every input, and each argument reads behind the call as it read before: a beginning of the bytes of a release or a root, and the bytes followed by others, are refused; the number of bytes is that of the fields.
  Conditions: the package variable bytes.ErrTooLarge holds, when the call begins, what the program's text lays there (the card ties it); no other narrowing.
-/
import Derived.Test.YtegbdcadlmefgaaDoorQE
import Derived.Test.YtegbdcadlmefgaaDoorQC
import Derived.Test.YtegbdcadlmefgaaDoorQB
import Derived.Test.YtegbdcadlmefgaaDoorCards
import Derived.Test.YtegbdcadlmefgaaDoorTie
import Derived.Lib.LaidTab
import Derived.MakeChecks
import Derived.Stop.LaidErr
import Derived.SevenTiedAt
section
namespace Go.Proofs.YtegbdcadlmefgaaDoor
open Go.RowKit V
--PURE: (intro _ _; simp [pureL, pureS, pureE]; done)
set_option maxRecDepth 100000
set_option maxHeartbeats 4000000
set_option linter.unusedSimpArgs false
attribute [local irreducible] V.Sat V.DSat
theorem p23 (r : Rel) (hv : validB r = true) (hw : RelW r) : Fun Tryd.prog [] 23 [.ro (.u8 (bytesR r))] (.tup [r.v, .int .i64 0]) := by
  have h := parse_walk (bytesR r)
  rw [(okP_of r hv hw).1, (okP_of r hv hw).2] at h
  exact h
theorem p24 (q : RootL) (hv : rootB q = true) (hw : RootW q) : Fun Tryd.prog [] 24 [.ro (.u8 (bytesQ q))] (.tup [q.v, .int .i64 0]) := by
  have h := parseRoot_walk (bytesQ q)
  rw [(okQ_of q hv hw).1, (okQ_of q hv hw).2] at h
  exact h
theorem p23x (q : RootL) : Fun Tryd.prog [] 23 [.ro (.u8 (bytesQ q))] (.tup [zeroRel.v, .int .i64 260]) := by
  have h := parse_walk (bytesQ q)
  rw [okP_root] at h
  exact h
theorem p24x (r : Rel) : Fun Tryd.prog [] 24 [.ro (.u8 (bytesR r))] (.tup [zeroRoot.v, .int .i64 260]) := by
  have h := parseRoot_walk (bytesR r)
  rw [okQ_rel] at h
  exact h
theorem s25 (r : Rel) : Fun Tryd.prog [] 25 [r.v, r.v] (.bool true) := by
  have h := same_rel r r
  rw [(relEq_iff _ _).2 rfl] at h
  exact h
theorem s26 (q : RootL) : Fun Tryd.prog [] 26 [q.v, q.v] (.bool true) := by
  have h := same_root q q
  rw [(rootEq_iff _ _).2 rfl] at h
  exact h
theorem trips_law (x : RawL) (y : RawQ) : Fun Tryd.prog [] 4 [x.v, y.v] (.bool true) := by
  refine Fun.mkF 7 Tryd.func4 rfl Tryd.ntmps4 rfl rfl fun hf T w0 => ?_
  have g1 := u16_iff hf.1.1
  have g2 := u16_iff hf.2.1.1
  have m1 := made_walk x (by omega)
  have m2 := madeRoot_walk y
  have hv := madeR_valid x
  have hw := madeR_wf x
  have hv2 := madeQ_valid y (by omega)
  have hw2 := madeQ_wf y
  generalize madeR x = r at *
  generalize madeQ y = q at *
  have b1 := bytes_spec r hv
  have c1 := rootBytes_spec q hv2
  have a1 := p23 r hv hw
  have a2 := p24 q hv2 hw2
  have a3 := p23x q
  have a4 := p24x r
  have v1 := valid_spec r
  rw [hv] at v1
  have v2 := validRoot_spec q
  rw [hv2] at v2
  have s1 := s25 r
  have s2 := s26 q
  repeat' (first
      | ((with_reducible apply Sat.run (X := X64)); exact rfl; (first | exact True.intro | (exact phi) | skip))
      | ((with_reducible apply Sat.drawn); kernel_rfl)
      | ((with_reducible apply DSat.run (X := X64)); exact rfl; (first | exact True.intro | (exact phi) | skip))
      | ((with_reducible apply DSat.fin); kernel_rfl)
      | ((with_reducible apply Sat.cond_t); exact rfl)
      | ((with_reducible apply Sat.cond_f); exact rfl)
      | ((with_reducible apply Sat.cond_pt); exact rfl; (try dsimp only [V.EV.sub, V.EV.len]); first | assumption | omega)
      | ((with_reducible apply Sat.cond_pf); exact rfl; (try dsimp only [V.EV.sub, V.EV.len]); first | assumption | omega)
      | ((with_reducible apply Sat.cond_p); exact rfl; all_goals intro h)
      | ((with_reducible apply Sat.cond); exact rfl; all_goals intro h)
      | ((with_reducible apply Sat.gon); exact rfl; first | exact rfl | (decide +kernel))
      | ((with_reducible apply Sat.call0 (sanity_law)); exact rfl; exact rfl; kernel_rfl; exact rfl)
      | ((with_reducible apply DSat.call0 (sanity_law)); exact rfl; exact rfl; kernel_rfl; exact rfl)
      | ((with_reducible apply DSat.callM0 (sanity_law)); exact rfl; exact rfl; (first | exact rfl | assumption | (decide +kernel)); exact rfl; kernel_rfl; exact rfl)
      | ((with_reducible apply Sat.call (m1)); exact rfl; exact rfl; kernel_rfl; (exact cnvX); exact rfl)
      | ((with_reducible apply DSat.call (m1)); exact rfl; exact rfl; kernel_rfl; (exact cnvX); exact rfl)
      | ((with_reducible apply Sat.call (m2)); exact rfl; exact rfl; kernel_rfl; (exact cnvX); exact rfl)
      | ((with_reducible apply DSat.call (m2)); exact rfl; exact rfl; kernel_rfl; (exact cnvX); exact rfl)
      | ((with_reducible apply Sat.call (b1)); exact rfl; exact rfl; kernel_rfl; (exact cnvX); exact rfl)
      | ((with_reducible apply DSat.call (b1)); exact rfl; exact rfl; kernel_rfl; (exact cnvX); exact rfl)
      | ((with_reducible apply Sat.call (c1)); exact rfl; exact rfl; kernel_rfl; (exact cnvX); exact rfl)
      | ((with_reducible apply DSat.call (c1)); exact rfl; exact rfl; kernel_rfl; (exact cnvX); exact rfl)
      | ((with_reducible apply Sat.call (a1)); exact rfl; exact rfl; kernel_rfl; (exact cnvX); exact rfl)
      | ((with_reducible apply DSat.call (a1)); exact rfl; exact rfl; kernel_rfl; (exact cnvX); exact rfl)
      | ((with_reducible apply Sat.call (a2)); exact rfl; exact rfl; kernel_rfl; (exact cnvX); exact rfl)
      | ((with_reducible apply DSat.call (a2)); exact rfl; exact rfl; kernel_rfl; (exact cnvX); exact rfl)
      | ((with_reducible apply Sat.call (a3)); exact rfl; exact rfl; kernel_rfl; (exact cnvX); exact rfl)
      | ((with_reducible apply DSat.call (a3)); exact rfl; exact rfl; kernel_rfl; (exact cnvX); exact rfl)
      | ((with_reducible apply Sat.call (a4)); exact rfl; exact rfl; kernel_rfl; (exact cnvX); exact rfl)
      | ((with_reducible apply DSat.call (a4)); exact rfl; exact rfl; kernel_rfl; (exact cnvX); exact rfl)
      | ((with_reducible apply Sat.callR (v1)); exact rfl; exact rfl; exact rfl; kernel_rfl; (exact cnvX); exact rfl)
      | ((with_reducible apply DSat.callR (v1)); exact rfl; exact rfl; exact rfl; kernel_rfl; (exact cnvX); exact rfl)
      | ((with_reducible apply Sat.callR (v2)); exact rfl; exact rfl; exact rfl; kernel_rfl; (exact cnvX); exact rfl)
      | ((with_reducible apply DSat.callR (v2)); exact rfl; exact rfl; exact rfl; kernel_rfl; (exact cnvX); exact rfl)
      | ((with_reducible apply Sat.callG1 (v2)); exact rfl; exact rfl; exact rfl; exact rfl; kernel_rfl; (intro hG; (exact cnvX)); exact rfl)
      | ((with_reducible apply DSat.callG1 (v2)); exact rfl; exact rfl; exact rfl; exact rfl; kernel_rfl; (intro hG; (exact cnvX)); exact rfl)
      | ((with_reducible apply Sat.callG1 (s1)); exact rfl; exact rfl; exact rfl; exact rfl; kernel_rfl; (intro hG; (exact cnvX)); exact rfl)
      | ((with_reducible apply DSat.callG1 (s1)); exact rfl; exact rfl; exact rfl; exact rfl; kernel_rfl; (intro hG; (exact cnvX)); exact rfl)
      | ((with_reducible apply Sat.callG1 (s2)); exact rfl; exact rfl; exact rfl; exact rfl; kernel_rfl; (intro hG; (exact cnvX)); exact rfl)
      | ((with_reducible apply DSat.callG1 (s2)); exact rfl; exact rfl; exact rfl; exact rfl; kernel_rfl; (intro hG; (exact cnvX)); exact rfl)
      | ((with_reducible apply Sat.callR (s1)); exact rfl; exact rfl; exact rfl; kernel_rfl; (exact cnvX); exact rfl)
      | ((with_reducible apply DSat.callR (s1)); exact rfl; exact rfl; exact rfl; kernel_rfl; (exact cnvX); exact rfl)
      | ((with_reducible apply Sat.callR (s2)); exact rfl; exact rfl; exact rfl; kernel_rfl; (exact cnvX); exact rfl)
      | ((with_reducible apply DSat.callR (s2)); exact rfl; exact rfl; exact rfl; kernel_rfl; (exact cnvX); exact rfl) | fail)
  all_goals (refine Sat.fin (Sat.end1 rfl rfl rfl True.intro (.refl _ purX) (by first | exact .inl rfl | exact .inr rfl) (fun _ h => h)) ?_; (first | exact rfl | exact congrArg SV.bool (by decide +kernel)))
end Go.Proofs.YtegbdcadlmefgaaDoor
end
section
namespace Go.Proofs.YtegbdcadlmefgaaDoor
open Go.RowKit Go.ChangeShapes Go.WideShapes V
set_option maxRecDepth 100000
theorem own : ownKnob Tryd.prog.godebug = none := by kernel_rfl
theorem laidOut : laidOutB Tryd.prog = true := by kernel_rfl
def errs_laid : List (String × DataW Unit) := [("bytes.ErrTooLarge", Rows.laid_bytes_ErrTooLarge)]
theorem errs_glob (W : World) (_ : laidMetH Tryd.prog errs_laid W) : GOk [] (fun _ => False) W := glob_nil
theorem door_met (os : Os) (args : Array Value) : laidMetH Tryd.prog errs_laid ((World.doorLaid Tryd.prog 300 os).forCall (fun _ _ => 0) ⟨#[], args, []⟩).memory :=
  laidMetH_of_parts3 (fuel := 8) (laidMet_of_run' 8 (by kernel_rfl) (by kernel_rfl)) (by kernel_rfl) (by kernel_rfl)
end Go.Proofs.YtegbdcadlmefgaaDoor
end
section
namespace Go.Proofs.YtegbdcadlmefgaaDoor
open Go.RowKit V
set_option maxRecDepth 100000
variable {H : Type}
theorem map_nthD {α : Type} (f : DataW H → α) : ∀ (l : List (DataW H)) (i : Nat), (l.map f).getD i (f .nil) = f (nthD l i)
  | [], i => rfl
  | x :: r, 0 => rfl
  | x :: r, i + 1 => by
    simp only [List.map_cons, List.getD_cons_succ, nthD]
    exact map_nthD f r i
def partD (d : DataW H) : PartL := ⟨sOf (nthD (ptsD d) 0), (ptsD (nthD (ptsD d) 1)).map u8Of⟩
def keyD (d : DataW H) : List UInt8 := (ptsD d).map u8Of
def roleD (d : DataW H) : RoleL := ⟨sOf (nthD (ptsD d) 0), (eOf (nthD (ptsD d) 1)).map iOf, iOf (nthD (ptsD d) 2)⟩
def relD (d : DataW H) : Rel := ⟨iOf (nthD (ptsD d) 0), iOf (nthD (ptsD d) 1), iOf (nthD (ptsD d) 2), iOf (nthD (ptsD d) 3), (ptsD (nthD (ptsD d) 4)).map u8Of, iOf (nthD (ptsD d) 5), (ptsD (nthD (ptsD d) 6)).map u8Of, (eOf (nthD (ptsD d) 7)).map iOf, (eOf (nthD (ptsD d) 8)).map partD⟩
def rootD (d : DataW H) : RootL := ⟨iOf (nthD (ptsD d) 0), iOf (nthD (ptsD d) 1), (eOf (nthD (ptsD d) 2)).map keyD, (eOf (nthD (ptsD d) 3)).map roleD⟩
theorem partsD_eq (l : List (DataW H)) : partsE (l.map partD) = .g l.length 33 fun i => [.str (sOf (nthD (ptsD (nthD l i)) 0)), .arr 32 (.u8 ((ptsD (nthD (ptsD (nthD l i)) 1)).map u8Of))] := by
  show EV.g _ _ _ = _
  rw [List.length_map]
  congr 1
  funext i
  have h : (l.map partD).getD i part0 = partD (nthD l i) := map_nthD partD l i
  rw [h]
  rfl
theorem keysD_eq (l : List (DataW H)) : keysE (l.map keyD) = .g l.length 32 fun i => [.arr 32 (.u8 ((ptsD (nthD l i)).map u8Of))] := by
  show EV.g _ _ _ = _
  rw [List.length_map]
  congr 1
  funext i
  have h : (l.map keyD).getD i [] = keyD (nthD l i) := map_nthD keyD l i
  rw [h]
  rfl
theorem rolesD_eq (l : List (DataW H)) : rolesE (l.map roleD) = .g l.length 3 fun i => [.str (sOf (nthD (ptsD (nthD l i)) 0)), .ro (.ints .i64 ((eOf (nthD (ptsD (nthD l i)) 1)).map iOf)), .int .i64 (iOf (nthD (ptsD (nthD l i)) 2))] := by
  show EV.g _ _ _ = _
  rw [List.length_map]
  congr 1
  funext i
  have h : (l.map roleD).getD i role0 = roleD (nthD l i) := map_nthD roleD l i
  rw [h]
  rfl
theorem relD_v (d : DataW H) : (relD d).v = .agg [.int .i64 (iOf (nthD (ptsD d) 0)), .int .i64 (iOf (nthD (ptsD d) 1)), .int .i64 (iOf (nthD (ptsD d) 2)), .int .i64 (iOf (nthD (ptsD d) 3)), .arr 32 (.u8 ((ptsD (nthD (ptsD d) 4)).map u8Of)), .int .i64 (iOf (nthD (ptsD d) 5)), .arr 32 (.u8 ((ptsD (nthD (ptsD d) 6)).map u8Of)), .ro (.ints .i64 ((eOf (nthD (ptsD d) 7)).map iOf)),
    .ro (.g (eOf (nthD (ptsD d) 8)).length 33 fun i => [.str (sOf (nthD (ptsD (nthD (eOf (nthD (ptsD d) 8)) i)) 0)), .arr 32 (.u8 ((ptsD (nthD (ptsD (nthD (eOf (nthD (ptsD d) 8)) i)) 1)).map u8Of))])] := by
  rw [← partsD_eq]
  rfl
theorem rootD_v (d : DataW H) : (rootD d).v = .agg [.int .i64 (iOf (nthD (ptsD d) 0)), .int .i64 (iOf (nthD (ptsD d) 1)), .ro (.g (eOf (nthD (ptsD d) 2)).length 32 fun i => [.arr 32 (.u8 ((ptsD (nthD (eOf (nthD (ptsD d) 2)) i)).map u8Of))]),
    .ro (.g (eOf (nthD (ptsD d) 3)).length 3 fun i => [.str (sOf (nthD (ptsD (nthD (eOf (nthD (ptsD d) 3)) i)) 0)), .ro (.ints .i64 ((eOf (nthD (ptsD (nthD (eOf (nthD (ptsD d) 3)) i)) 1)).map iOf)), .int .i64 (iOf (nthD (ptsD (nthD (eOf (nthD (ptsD d) 3)) i)) 2))])] := by
  rw [← keysD_eq, ← rolesD_eq]
  rfl
end Go.Proofs.YtegbdcadlmefgaaDoor
end
section
namespace Go.Proofs.YtegbdcadlmefgaaDoor
open Go.RowKit V
--PURE: (intro _ _; simp [pureL, pureS, pureE]; done)
set_option maxRecDepth 100000
set_option maxHeartbeats 4000000
set_option linter.unusedSimpArgs false
attribute [local irreducible] V.Sat V.DSat
def RawL.l (x : RawL) : List SV := [.int .u16 (x.version : Int), .int .u16 (x.floor : Int), .int .u32 (x.expiry : Int), .int .u32 (x.size : Int), .int .u8 (x.s0.toNat : Int), .int .u8 (x.s1.toNat : Int), .ro (.u8 x.gone), .ro (.u8 x.parts)]
def RawQ.l (x : RawQ) : List SV := [.int .u16 (x.gen : Int), .int .u32 (x.expiry : Int), .ro (.u8 x.keys), .ro (rawRoles x.roles)]
theorem same_bytes (r q : Rel) (hv : validB r = true) (hw : RelW r) (hv' : validB q = true) (hw' : RelW q) : Fun Tryd.prog [] 14 [.ro (.u8 (bytesR r)), .ro (.u8 (bytesR q))] (.bool (relEq r q)) := by
  have h := same_ref (bytesR r) (bytesR q)
  rw [show decide (bytesR r = bytesR q) = relEq r q from ?_] at h
  · exact h
  · cases he : relEq r q with
    | true => rw [(relEq_iff r q).1 he]; exact decide_eq_true rfl
    | false =>
      refine decide_eq_false fun hb => ?_
      rw [(relEq_iff r q).2 (bytesR_inj hv hw hv' hw' hb)] at he
      cases he
theorem same_bytesQ (r q : RootL) (hv : rootB r = true) (hw : RootW r) (hv' : rootB q = true) (hw' : RootW q) : Fun Tryd.prog [] 14 [.ro (.u8 (bytesQ r)), .ro (.u8 (bytesQ q))] (.bool (rootEq r q)) := by
  have h := same_ref (bytesQ r) (bytesQ q)
  rw [show decide (bytesQ r = bytesQ q) = rootEq r q from ?_] at h
  · exact h
  · cases he : rootEq r q with
    | true => rw [(rootEq_iff r q).1 he]; exact decide_eq_true rfl
    | false =>
      refine decide_eq_false fun hb => ?_
      rw [(rootEq_iff r q).2 (bytesQ_inj hv hw hv' hw' hb)] at he
      cases he
theorem differs_law (x1 x2 : RawL) (y1 y2 : RawQ) : Fun Tryd.prog [] 7 [.agg (x1.l ++ x2.l), .agg (y1.l ++ y2.l)] (.bool true) := by
  unfold RawL.l RawQ.l
  dsimp only [List.cons_append, List.nil_append]
  refine Fun.mkF 7 Tryd.func7 rfl Tryd.ntmps7 rfl rfl fun hf T w0 => ?_
  have f1 := u16_iff hf.1.1
  have f2 := u16_iff hf.1.2.2.2.2.2.2.2.2.1
  have f3 := u16_iff hf.2.1.1
  have f4 := u16_iff hf.2.1.2.2.2.2.1
  have m1 := made_walk x1 (by omega)
  have m2 := made_walk x2 (by omega)
  have m3 := madeRoot_walk y1
  have m4 := madeRoot_walk y2
  have v1 := madeR_valid x1
  have w1 := madeR_wf x1
  have v2 := madeR_valid x2
  have w2 := madeR_wf x2
  have v3 := madeQ_valid y1 (by omega)
  have w3 := madeQ_wf y1
  have v4 := madeQ_valid y2 (by omega)
  have w4 := madeQ_wf y2
  generalize madeR x1 = r1 at *
  generalize madeR x2 = r2 at *
  generalize madeQ y1 = q1 at *
  generalize madeQ y2 = q2 at *
  have b1 := bytes_spec r1 v1
  have b2 := bytes_spec r2 v2
  have b3 := rootBytes_spec q1 v3
  have b4 := rootBytes_spec q2 v4
  have e1 := same_bytes r1 r2 v1 w1 v2 w2
  have e2 := same_bytesQ q1 q2 v3 w3 v4 w4
  have s1 := same_rel r1 r2
  have s2 := same_root q1 q2
  generalize relEq r1 r2 = z1 at *
  generalize rootEq q1 q2 = z2 at *
  rcases z1 with _ | _ <;> rcases z2 with _ | _
  · repeat' (first
        | ((with_reducible apply Sat.run (X := X64)); exact rfl; (first | exact True.intro | (exact phi) | skip))
        | ((with_reducible apply Sat.drawn); kernel_rfl)
        | ((with_reducible apply DSat.run (X := X64)); exact rfl; (first | exact True.intro | (exact phi) | skip))
        | ((with_reducible apply DSat.fin); kernel_rfl)
        | ((with_reducible apply Sat.cond_t); exact rfl)
        | ((with_reducible apply Sat.cond_f); exact rfl)
        | ((with_reducible apply Sat.cond_pt); exact rfl; (try dsimp only [V.EV.sub, V.EV.len]); first | assumption | omega)
        | ((with_reducible apply Sat.cond_pf); exact rfl; (try dsimp only [V.EV.sub, V.EV.len]); first | assumption | omega)
        | ((with_reducible apply Sat.cond_p); exact rfl; all_goals intro h)
        | ((with_reducible apply Sat.cond); exact rfl; all_goals intro h)
        | ((with_reducible apply Sat.gon); exact rfl; first | exact rfl | (decide +kernel))
        | ((with_reducible apply Sat.call0 (sanity_law)); exact rfl; exact rfl; kernel_rfl; exact rfl)
        | ((with_reducible apply DSat.call0 (sanity_law)); exact rfl; exact rfl; kernel_rfl; exact rfl)
        | ((with_reducible apply DSat.callM0 (sanity_law)); exact rfl; exact rfl; (first | exact rfl | assumption | (decide +kernel)); exact rfl; kernel_rfl; exact rfl)
        | ((with_reducible apply Sat.call (m1)); exact rfl; exact rfl; kernel_rfl; (exact cnvX); exact rfl)
        | ((with_reducible apply DSat.call (m1)); exact rfl; exact rfl; kernel_rfl; (exact cnvX); exact rfl)
        | ((with_reducible apply Sat.call (m2)); exact rfl; exact rfl; kernel_rfl; (exact cnvX); exact rfl)
        | ((with_reducible apply DSat.call (m2)); exact rfl; exact rfl; kernel_rfl; (exact cnvX); exact rfl)
        | ((with_reducible apply Sat.call (m3)); exact rfl; exact rfl; kernel_rfl; (exact cnvX); exact rfl)
        | ((with_reducible apply DSat.call (m3)); exact rfl; exact rfl; kernel_rfl; (exact cnvX); exact rfl)
        | ((with_reducible apply Sat.call (m4)); exact rfl; exact rfl; kernel_rfl; (exact cnvX); exact rfl)
        | ((with_reducible apply DSat.call (m4)); exact rfl; exact rfl; kernel_rfl; (exact cnvX); exact rfl)
        | ((with_reducible apply Sat.call (b1)); exact rfl; exact rfl; kernel_rfl; (exact cnvX); exact rfl)
        | ((with_reducible apply DSat.call (b1)); exact rfl; exact rfl; kernel_rfl; (exact cnvX); exact rfl)
        | ((with_reducible apply Sat.call (b2)); exact rfl; exact rfl; kernel_rfl; (exact cnvX); exact rfl)
        | ((with_reducible apply DSat.call (b2)); exact rfl; exact rfl; kernel_rfl; (exact cnvX); exact rfl)
        | ((with_reducible apply Sat.call (b3)); exact rfl; exact rfl; kernel_rfl; (exact cnvX); exact rfl)
        | ((with_reducible apply DSat.call (b3)); exact rfl; exact rfl; kernel_rfl; (exact cnvX); exact rfl)
        | ((with_reducible apply Sat.call (b4)); exact rfl; exact rfl; kernel_rfl; (exact cnvX); exact rfl)
        | ((with_reducible apply DSat.call (b4)); exact rfl; exact rfl; kernel_rfl; (exact cnvX); exact rfl)
        | ((with_reducible apply Sat.callR (e1)); exact rfl; exact rfl; exact rfl; kernel_rfl; (exact cnvX); exact rfl)
        | ((with_reducible apply DSat.callR (e1)); exact rfl; exact rfl; exact rfl; kernel_rfl; (exact cnvX); exact rfl)
        | ((with_reducible apply Sat.callR (e2)); exact rfl; exact rfl; exact rfl; kernel_rfl; (exact cnvX); exact rfl)
        | ((with_reducible apply DSat.callR (e2)); exact rfl; exact rfl; exact rfl; kernel_rfl; (exact cnvX); exact rfl)
        | ((with_reducible apply Sat.callR (s1)); exact rfl; exact rfl; exact rfl; kernel_rfl; (exact cnvX); exact rfl)
        | ((with_reducible apply DSat.callR (s1)); exact rfl; exact rfl; exact rfl; kernel_rfl; (exact cnvX); exact rfl)
        | ((with_reducible apply Sat.callR (s2)); exact rfl; exact rfl; exact rfl; kernel_rfl; (exact cnvX); exact rfl)
        | ((with_reducible apply DSat.callR (s2)); exact rfl; exact rfl; exact rfl; kernel_rfl; (exact cnvX); exact rfl)
        | ((with_reducible apply DSat.callM (b3)); exact rfl; exact rfl; (first | exact rfl | assumption | (decide +kernel)); exact rfl; kernel_rfl; (exact cnvX); exact rfl)
        | ((with_reducible apply DSat.callM (b4)); exact rfl; exact rfl; (first | exact rfl | assumption | (decide +kernel)); exact rfl; kernel_rfl; (exact cnvX); exact rfl)
        | ((with_reducible apply Sat.callG1 (e2)); exact rfl; exact rfl; exact rfl; exact rfl; kernel_rfl; (intro hG; (exact cnvX)); exact rfl)
        | ((with_reducible apply DSat.callG1 (e2)); exact rfl; exact rfl; exact rfl; exact rfl; kernel_rfl; (intro hG; (exact cnvX)); exact rfl)
        | ((with_reducible apply Sat.callG1 (s2)); exact rfl; exact rfl; exact rfl; exact rfl; kernel_rfl; (intro hG; (exact cnvX)); exact rfl)
        | ((with_reducible apply DSat.callG1 (s2)); exact rfl; exact rfl; exact rfl; exact rfl; kernel_rfl; (intro hG; (exact cnvX)); exact rfl) | fail)
    all_goals (refine Sat.fin (Sat.end1 rfl rfl rfl True.intro (.refl _ purX) (by first | exact .inl rfl | exact .inr rfl) (fun _ h => h)) ?_; (first | exact rfl | exact congrArg SV.bool (by decide +kernel)))
  · repeat' (first
        | ((with_reducible apply Sat.run (X := X64)); exact rfl; (first | exact True.intro | (exact phi) | skip))
        | ((with_reducible apply Sat.drawn); kernel_rfl)
        | ((with_reducible apply DSat.run (X := X64)); exact rfl; (first | exact True.intro | (exact phi) | skip))
        | ((with_reducible apply DSat.fin); kernel_rfl)
        | ((with_reducible apply Sat.cond_t); exact rfl)
        | ((with_reducible apply Sat.cond_f); exact rfl)
        | ((with_reducible apply Sat.cond_pt); exact rfl; (try dsimp only [V.EV.sub, V.EV.len]); first | assumption | omega)
        | ((with_reducible apply Sat.cond_pf); exact rfl; (try dsimp only [V.EV.sub, V.EV.len]); first | assumption | omega)
        | ((with_reducible apply Sat.cond_p); exact rfl; all_goals intro h)
        | ((with_reducible apply Sat.cond); exact rfl; all_goals intro h)
        | ((with_reducible apply Sat.gon); exact rfl; first | exact rfl | (decide +kernel))
        | ((with_reducible apply Sat.call0 (sanity_law)); exact rfl; exact rfl; kernel_rfl; exact rfl)
        | ((with_reducible apply DSat.call0 (sanity_law)); exact rfl; exact rfl; kernel_rfl; exact rfl)
        | ((with_reducible apply DSat.callM0 (sanity_law)); exact rfl; exact rfl; (first | exact rfl | assumption | (decide +kernel)); exact rfl; kernel_rfl; exact rfl)
        | ((with_reducible apply Sat.call (m1)); exact rfl; exact rfl; kernel_rfl; (exact cnvX); exact rfl)
        | ((with_reducible apply DSat.call (m1)); exact rfl; exact rfl; kernel_rfl; (exact cnvX); exact rfl)
        | ((with_reducible apply Sat.call (m2)); exact rfl; exact rfl; kernel_rfl; (exact cnvX); exact rfl)
        | ((with_reducible apply DSat.call (m2)); exact rfl; exact rfl; kernel_rfl; (exact cnvX); exact rfl)
        | ((with_reducible apply Sat.call (m3)); exact rfl; exact rfl; kernel_rfl; (exact cnvX); exact rfl)
        | ((with_reducible apply DSat.call (m3)); exact rfl; exact rfl; kernel_rfl; (exact cnvX); exact rfl)
        | ((with_reducible apply Sat.call (m4)); exact rfl; exact rfl; kernel_rfl; (exact cnvX); exact rfl)
        | ((with_reducible apply DSat.call (m4)); exact rfl; exact rfl; kernel_rfl; (exact cnvX); exact rfl)
        | ((with_reducible apply Sat.call (b1)); exact rfl; exact rfl; kernel_rfl; (exact cnvX); exact rfl)
        | ((with_reducible apply DSat.call (b1)); exact rfl; exact rfl; kernel_rfl; (exact cnvX); exact rfl)
        | ((with_reducible apply Sat.call (b2)); exact rfl; exact rfl; kernel_rfl; (exact cnvX); exact rfl)
        | ((with_reducible apply DSat.call (b2)); exact rfl; exact rfl; kernel_rfl; (exact cnvX); exact rfl)
        | ((with_reducible apply Sat.call (b3)); exact rfl; exact rfl; kernel_rfl; (exact cnvX); exact rfl)
        | ((with_reducible apply DSat.call (b3)); exact rfl; exact rfl; kernel_rfl; (exact cnvX); exact rfl)
        | ((with_reducible apply Sat.call (b4)); exact rfl; exact rfl; kernel_rfl; (exact cnvX); exact rfl)
        | ((with_reducible apply DSat.call (b4)); exact rfl; exact rfl; kernel_rfl; (exact cnvX); exact rfl)
        | ((with_reducible apply Sat.callR (e1)); exact rfl; exact rfl; exact rfl; kernel_rfl; (exact cnvX); exact rfl)
        | ((with_reducible apply DSat.callR (e1)); exact rfl; exact rfl; exact rfl; kernel_rfl; (exact cnvX); exact rfl)
        | ((with_reducible apply Sat.callR (e2)); exact rfl; exact rfl; exact rfl; kernel_rfl; (exact cnvX); exact rfl)
        | ((with_reducible apply DSat.callR (e2)); exact rfl; exact rfl; exact rfl; kernel_rfl; (exact cnvX); exact rfl)
        | ((with_reducible apply Sat.callR (s1)); exact rfl; exact rfl; exact rfl; kernel_rfl; (exact cnvX); exact rfl)
        | ((with_reducible apply DSat.callR (s1)); exact rfl; exact rfl; exact rfl; kernel_rfl; (exact cnvX); exact rfl)
        | ((with_reducible apply Sat.callR (s2)); exact rfl; exact rfl; exact rfl; kernel_rfl; (exact cnvX); exact rfl)
        | ((with_reducible apply DSat.callR (s2)); exact rfl; exact rfl; exact rfl; kernel_rfl; (exact cnvX); exact rfl)
        | ((with_reducible apply DSat.callM (b3)); exact rfl; exact rfl; (first | exact rfl | assumption | (decide +kernel)); exact rfl; kernel_rfl; (exact cnvX); exact rfl)
        | ((with_reducible apply DSat.callM (b4)); exact rfl; exact rfl; (first | exact rfl | assumption | (decide +kernel)); exact rfl; kernel_rfl; (exact cnvX); exact rfl)
        | ((with_reducible apply Sat.callG1 (e2)); exact rfl; exact rfl; exact rfl; exact rfl; kernel_rfl; (intro hG; (exact cnvX)); exact rfl)
        | ((with_reducible apply DSat.callG1 (e2)); exact rfl; exact rfl; exact rfl; exact rfl; kernel_rfl; (intro hG; (exact cnvX)); exact rfl)
        | ((with_reducible apply Sat.callG1 (s2)); exact rfl; exact rfl; exact rfl; exact rfl; kernel_rfl; (intro hG; (exact cnvX)); exact rfl)
        | ((with_reducible apply DSat.callG1 (s2)); exact rfl; exact rfl; exact rfl; exact rfl; kernel_rfl; (intro hG; (exact cnvX)); exact rfl) | fail)
    all_goals (refine Sat.fin (Sat.end1 rfl rfl rfl True.intro (.refl _ purX) (by first | exact .inl rfl | exact .inr rfl) (fun _ h => h)) ?_; (first | exact rfl | exact congrArg SV.bool (by decide +kernel)))
  · repeat' (first
        | ((with_reducible apply Sat.run (X := X64)); exact rfl; (first | exact True.intro | (exact phi) | skip))
        | ((with_reducible apply Sat.drawn); kernel_rfl)
        | ((with_reducible apply DSat.run (X := X64)); exact rfl; (first | exact True.intro | (exact phi) | skip))
        | ((with_reducible apply DSat.fin); kernel_rfl)
        | ((with_reducible apply Sat.cond_t); exact rfl)
        | ((with_reducible apply Sat.cond_f); exact rfl)
        | ((with_reducible apply Sat.cond_pt); exact rfl; (try dsimp only [V.EV.sub, V.EV.len]); first | assumption | omega)
        | ((with_reducible apply Sat.cond_pf); exact rfl; (try dsimp only [V.EV.sub, V.EV.len]); first | assumption | omega)
        | ((with_reducible apply Sat.cond_p); exact rfl; all_goals intro h)
        | ((with_reducible apply Sat.cond); exact rfl; all_goals intro h)
        | ((with_reducible apply Sat.gon); exact rfl; first | exact rfl | (decide +kernel))
        | ((with_reducible apply Sat.call0 (sanity_law)); exact rfl; exact rfl; kernel_rfl; exact rfl)
        | ((with_reducible apply DSat.call0 (sanity_law)); exact rfl; exact rfl; kernel_rfl; exact rfl)
        | ((with_reducible apply DSat.callM0 (sanity_law)); exact rfl; exact rfl; (first | exact rfl | assumption | (decide +kernel)); exact rfl; kernel_rfl; exact rfl)
        | ((with_reducible apply Sat.call (m1)); exact rfl; exact rfl; kernel_rfl; (exact cnvX); exact rfl)
        | ((with_reducible apply DSat.call (m1)); exact rfl; exact rfl; kernel_rfl; (exact cnvX); exact rfl)
        | ((with_reducible apply Sat.call (m2)); exact rfl; exact rfl; kernel_rfl; (exact cnvX); exact rfl)
        | ((with_reducible apply DSat.call (m2)); exact rfl; exact rfl; kernel_rfl; (exact cnvX); exact rfl)
        | ((with_reducible apply Sat.call (m3)); exact rfl; exact rfl; kernel_rfl; (exact cnvX); exact rfl)
        | ((with_reducible apply DSat.call (m3)); exact rfl; exact rfl; kernel_rfl; (exact cnvX); exact rfl)
        | ((with_reducible apply Sat.call (m4)); exact rfl; exact rfl; kernel_rfl; (exact cnvX); exact rfl)
        | ((with_reducible apply DSat.call (m4)); exact rfl; exact rfl; kernel_rfl; (exact cnvX); exact rfl)
        | ((with_reducible apply Sat.call (b1)); exact rfl; exact rfl; kernel_rfl; (exact cnvX); exact rfl)
        | ((with_reducible apply DSat.call (b1)); exact rfl; exact rfl; kernel_rfl; (exact cnvX); exact rfl)
        | ((with_reducible apply Sat.call (b2)); exact rfl; exact rfl; kernel_rfl; (exact cnvX); exact rfl)
        | ((with_reducible apply DSat.call (b2)); exact rfl; exact rfl; kernel_rfl; (exact cnvX); exact rfl)
        | ((with_reducible apply Sat.call (b3)); exact rfl; exact rfl; kernel_rfl; (exact cnvX); exact rfl)
        | ((with_reducible apply DSat.call (b3)); exact rfl; exact rfl; kernel_rfl; (exact cnvX); exact rfl)
        | ((with_reducible apply Sat.call (b4)); exact rfl; exact rfl; kernel_rfl; (exact cnvX); exact rfl)
        | ((with_reducible apply DSat.call (b4)); exact rfl; exact rfl; kernel_rfl; (exact cnvX); exact rfl)
        | ((with_reducible apply Sat.callR (e1)); exact rfl; exact rfl; exact rfl; kernel_rfl; (exact cnvX); exact rfl)
        | ((with_reducible apply DSat.callR (e1)); exact rfl; exact rfl; exact rfl; kernel_rfl; (exact cnvX); exact rfl)
        | ((with_reducible apply Sat.callR (e2)); exact rfl; exact rfl; exact rfl; kernel_rfl; (exact cnvX); exact rfl)
        | ((with_reducible apply DSat.callR (e2)); exact rfl; exact rfl; exact rfl; kernel_rfl; (exact cnvX); exact rfl)
        | ((with_reducible apply Sat.callR (s1)); exact rfl; exact rfl; exact rfl; kernel_rfl; (exact cnvX); exact rfl)
        | ((with_reducible apply DSat.callR (s1)); exact rfl; exact rfl; exact rfl; kernel_rfl; (exact cnvX); exact rfl)
        | ((with_reducible apply Sat.callR (s2)); exact rfl; exact rfl; exact rfl; kernel_rfl; (exact cnvX); exact rfl)
        | ((with_reducible apply DSat.callR (s2)); exact rfl; exact rfl; exact rfl; kernel_rfl; (exact cnvX); exact rfl)
        | ((with_reducible apply DSat.callM (b3)); exact rfl; exact rfl; (first | exact rfl | assumption | (decide +kernel)); exact rfl; kernel_rfl; (exact cnvX); exact rfl)
        | ((with_reducible apply DSat.callM (b4)); exact rfl; exact rfl; (first | exact rfl | assumption | (decide +kernel)); exact rfl; kernel_rfl; (exact cnvX); exact rfl)
        | ((with_reducible apply Sat.callG1 (e2)); exact rfl; exact rfl; exact rfl; exact rfl; kernel_rfl; (intro hG; (exact cnvX)); exact rfl)
        | ((with_reducible apply DSat.callG1 (e2)); exact rfl; exact rfl; exact rfl; exact rfl; kernel_rfl; (intro hG; (exact cnvX)); exact rfl)
        | ((with_reducible apply Sat.callG1 (s2)); exact rfl; exact rfl; exact rfl; exact rfl; kernel_rfl; (intro hG; (exact cnvX)); exact rfl)
        | ((with_reducible apply DSat.callG1 (s2)); exact rfl; exact rfl; exact rfl; exact rfl; kernel_rfl; (intro hG; (exact cnvX)); exact rfl) | fail)
    all_goals (refine Sat.fin (Sat.end1 rfl rfl rfl True.intro (.refl _ purX) (by first | exact .inl rfl | exact .inr rfl) (fun _ h => h)) ?_; (first | exact rfl | exact congrArg SV.bool (by decide +kernel)))
  · repeat' (first
        | ((with_reducible apply Sat.run (X := X64)); exact rfl; (first | exact True.intro | (exact phi) | skip))
        | ((with_reducible apply Sat.drawn); kernel_rfl)
        | ((with_reducible apply DSat.run (X := X64)); exact rfl; (first | exact True.intro | (exact phi) | skip))
        | ((with_reducible apply DSat.fin); kernel_rfl)
        | ((with_reducible apply Sat.cond_t); exact rfl)
        | ((with_reducible apply Sat.cond_f); exact rfl)
        | ((with_reducible apply Sat.cond_pt); exact rfl; (try dsimp only [V.EV.sub, V.EV.len]); first | assumption | omega)
        | ((with_reducible apply Sat.cond_pf); exact rfl; (try dsimp only [V.EV.sub, V.EV.len]); first | assumption | omega)
        | ((with_reducible apply Sat.cond_p); exact rfl; all_goals intro h)
        | ((with_reducible apply Sat.cond); exact rfl; all_goals intro h)
        | ((with_reducible apply Sat.gon); exact rfl; first | exact rfl | (decide +kernel))
        | ((with_reducible apply Sat.call0 (sanity_law)); exact rfl; exact rfl; kernel_rfl; exact rfl)
        | ((with_reducible apply DSat.call0 (sanity_law)); exact rfl; exact rfl; kernel_rfl; exact rfl)
        | ((with_reducible apply DSat.callM0 (sanity_law)); exact rfl; exact rfl; (first | exact rfl | assumption | (decide +kernel)); exact rfl; kernel_rfl; exact rfl)
        | ((with_reducible apply Sat.call (m1)); exact rfl; exact rfl; kernel_rfl; (exact cnvX); exact rfl)
        | ((with_reducible apply DSat.call (m1)); exact rfl; exact rfl; kernel_rfl; (exact cnvX); exact rfl)
        | ((with_reducible apply Sat.call (m2)); exact rfl; exact rfl; kernel_rfl; (exact cnvX); exact rfl)
        | ((with_reducible apply DSat.call (m2)); exact rfl; exact rfl; kernel_rfl; (exact cnvX); exact rfl)
        | ((with_reducible apply Sat.call (m3)); exact rfl; exact rfl; kernel_rfl; (exact cnvX); exact rfl)
        | ((with_reducible apply DSat.call (m3)); exact rfl; exact rfl; kernel_rfl; (exact cnvX); exact rfl)
        | ((with_reducible apply Sat.call (m4)); exact rfl; exact rfl; kernel_rfl; (exact cnvX); exact rfl)
        | ((with_reducible apply DSat.call (m4)); exact rfl; exact rfl; kernel_rfl; (exact cnvX); exact rfl)
        | ((with_reducible apply Sat.call (b1)); exact rfl; exact rfl; kernel_rfl; (exact cnvX); exact rfl)
        | ((with_reducible apply DSat.call (b1)); exact rfl; exact rfl; kernel_rfl; (exact cnvX); exact rfl)
        | ((with_reducible apply Sat.call (b2)); exact rfl; exact rfl; kernel_rfl; (exact cnvX); exact rfl)
        | ((with_reducible apply DSat.call (b2)); exact rfl; exact rfl; kernel_rfl; (exact cnvX); exact rfl)
        | ((with_reducible apply Sat.call (b3)); exact rfl; exact rfl; kernel_rfl; (exact cnvX); exact rfl)
        | ((with_reducible apply DSat.call (b3)); exact rfl; exact rfl; kernel_rfl; (exact cnvX); exact rfl)
        | ((with_reducible apply Sat.call (b4)); exact rfl; exact rfl; kernel_rfl; (exact cnvX); exact rfl)
        | ((with_reducible apply DSat.call (b4)); exact rfl; exact rfl; kernel_rfl; (exact cnvX); exact rfl)
        | ((with_reducible apply Sat.callR (e1)); exact rfl; exact rfl; exact rfl; kernel_rfl; (exact cnvX); exact rfl)
        | ((with_reducible apply DSat.callR (e1)); exact rfl; exact rfl; exact rfl; kernel_rfl; (exact cnvX); exact rfl)
        | ((with_reducible apply Sat.callR (e2)); exact rfl; exact rfl; exact rfl; kernel_rfl; (exact cnvX); exact rfl)
        | ((with_reducible apply DSat.callR (e2)); exact rfl; exact rfl; exact rfl; kernel_rfl; (exact cnvX); exact rfl)
        | ((with_reducible apply Sat.callR (s1)); exact rfl; exact rfl; exact rfl; kernel_rfl; (exact cnvX); exact rfl)
        | ((with_reducible apply DSat.callR (s1)); exact rfl; exact rfl; exact rfl; kernel_rfl; (exact cnvX); exact rfl)
        | ((with_reducible apply Sat.callR (s2)); exact rfl; exact rfl; exact rfl; kernel_rfl; (exact cnvX); exact rfl)
        | ((with_reducible apply DSat.callR (s2)); exact rfl; exact rfl; exact rfl; kernel_rfl; (exact cnvX); exact rfl)
        | ((with_reducible apply DSat.callM (b3)); exact rfl; exact rfl; (first | exact rfl | assumption | (decide +kernel)); exact rfl; kernel_rfl; (exact cnvX); exact rfl)
        | ((with_reducible apply DSat.callM (b4)); exact rfl; exact rfl; (first | exact rfl | assumption | (decide +kernel)); exact rfl; kernel_rfl; (exact cnvX); exact rfl)
        | ((with_reducible apply Sat.callG1 (e2)); exact rfl; exact rfl; exact rfl; exact rfl; kernel_rfl; (intro hG; (exact cnvX)); exact rfl)
        | ((with_reducible apply DSat.callG1 (e2)); exact rfl; exact rfl; exact rfl; exact rfl; kernel_rfl; (intro hG; (exact cnvX)); exact rfl)
        | ((with_reducible apply Sat.callG1 (s2)); exact rfl; exact rfl; exact rfl; exact rfl; kernel_rfl; (intro hG; (exact cnvX)); exact rfl)
        | ((with_reducible apply DSat.callG1 (s2)); exact rfl; exact rfl; exact rfl; exact rfl; kernel_rfl; (intro hG; (exact cnvX)); exact rfl) | fail)
    all_goals (refine Sat.fin (Sat.end1 rfl rfl rfl True.intro (.refl _ purX) (by first | exact .inl rfl | exact .inr rfl) (fun _ h => h)) ?_; (first | exact rfl | exact congrArg SV.bool (by decide +kernel)))
end Go.Proofs.YtegbdcadlmefgaaDoor
end
section
namespace Go.Proofs.YtegbdcadlmefgaaDoor
open Go.RowKit V
set_option maxRecDepth 100000
section
variable {H : Type}
@[reducible] def rawSV (d : DataW H) : List SV := [.int .u16 (iOf (nthD (ptsD d) 0)), .int .u16 (iOf (nthD (ptsD d) 1)), .int .u32 (iOf (nthD (ptsD d) 2)), .int .u32 (iOf (nthD (ptsD d) 3)), .int .u8 (iOf (nthD (ptsD (nthD (ptsD d) 4)) 0)), .int .u8 (iOf (nthD (ptsD (nthD (ptsD d) 4)) 1)), .ro (.u8 ((eOf (nthD (ptsD d) 5)).map u8Of)), .ro (.u8 ((eOf (nthD (ptsD d) 6)).map u8Of))]
def rawD (d : DataW H) : RawL := ⟨(iOf (nthD (ptsD d) 0)).toNat, (iOf (nthD (ptsD d) 1)).toNat, (iOf (nthD (ptsD d) 2)).toNat, (iOf (nthD (ptsD d) 3)).toNat, u8Of (nthD (ptsD (nthD (ptsD d) 4)) 0), u8Of (nthD (ptsD (nthD (ptsD d) 4)) 1), (eOf (nthD (ptsD d) 5)).map u8Of, (eOf (nthD (ptsD d) 6)).map u8Of⟩
@[reducible] def rolesSV (l : List (DataW H)) : EV := .g l.length 2 fun i => [.int .u8 (iOf (nthD (ptsD (nthD l i)) 0)), .int .u8 (iOf (nthD (ptsD (nthD l i)) 1))]
@[reducible] def rawQSV (d : DataW H) : List SV := [.int .u16 (iOf (nthD (ptsD d) 0)), .int .u32 (iOf (nthD (ptsD d) 1)), .ro (.u8 ((eOf (nthD (ptsD d) 2)).map u8Of)), .ro (rolesSV (eOf (nthD (ptsD d) 3)))]
def pairD (d : DataW H) : UInt8 × UInt8 := (u8Of (nthD (ptsD d) 0), u8Of (nthD (ptsD d) 1))
def rawQD (d : DataW H) : RawQ := ⟨(iOf (nthD (ptsD d) 0)).toNat, (iOf (nthD (ptsD d) 1)).toNat, (eOf (nthD (ptsD d) 2)).map u8Of, (eOf (nthD (ptsD d) 3)).map pairD⟩
theorem u8Of_i (x : DataW H) (h : inR .u8 (iOf x)) : iOf x = ((u8Of x).toNat : Int) := by
  have h1 := u8_iff h
  unfold u8Of
  have h2 : (iOf x).toNat < 256 := by omega
  rw [UInt8.toNat_ofNat_of_lt' h2]
  omega
theorem rawD_l (d : DataW H) (h : factsL (rawSV d)) : rawSV d = (rawD d).l := by
  obtain ⟨h0, h1, h2, h3, h4, h5, _⟩ := h
  have a0 := u16_iff h0
  have a1 := u16_iff h1
  have a2 := u32_iff h2
  have a3 := u32_iff h3
  show [_, _, _, _, _, _, _, _] = [SV.int .u16 (((iOf (nthD (ptsD d) 0)).toNat : Nat) : Int), SV.int .u16 (((iOf (nthD (ptsD d) 1)).toNat : Nat) : Int), SV.int .u32 (((iOf (nthD (ptsD d) 2)).toNat : Nat) : Int), SV.int .u32 (((iOf (nthD (ptsD d) 3)).toNat : Nat) : Int), SV.int .u8 ((u8Of (nthD (ptsD (nthD (ptsD d) 4)) 0)).toNat : Int), SV.int .u8 ((u8Of (nthD (ptsD (nthD (ptsD d) 4)) 1)).toNat : Int), _, _]
  rw [Int.toNat_of_nonneg a0.1, Int.toNat_of_nonneg a1.1, Int.toNat_of_nonneg a2.1, Int.toNat_of_nonneg a3.1, ← u8Of_i _ h4, ← u8Of_i _ h5]
  rfl
theorem rolesSV_eq (l : List (DataW H)) (h : ∀ i, i < l.length → inR .u8 (iOf (nthD (ptsD (nthD l i)) 0)) ∧ inR .u8 (iOf (nthD (ptsD (nthD l i)) 1))) : rolesSV l = rawRoles (l.map pairD) := by
  show EV.g _ _ _ = EV.g _ _ _
  rw [List.length_map]
  congr 1
  funext i
  have e : (l.map pairD).getD i (0, 0) = pairD (nthD l i) := map_nthD pairD l i
  rw [e]
  by_cases hi : i < l.length
  · obtain ⟨h1, h2⟩ := h i hi
    show [SV.int .u8 _, SV.int .u8 _] = [SV.int .u8 ((u8Of (nthD (ptsD (nthD l i)) 0)).toNat : Int), SV.int .u8 ((u8Of (nthD (ptsD (nthD l i)) 1)).toNat : Int)]
    rw [← u8Of_i _ h1, ← u8Of_i _ h2]
  · rw [nthD_out l i (by omega)]
    rfl
theorem rawQD_l (d : DataW H) (h : factsL (rawQSV d)) : rawQSV d = (rawQD d).l := by
  obtain ⟨h0, h1, _, ⟨_, h3⟩, _⟩ := h
  have a0 := u16_iff h0
  have a1 := u32_iff h1
  have e := rolesSV_eq (eOf (nthD (ptsD d) 3)) fun i hi => ⟨(h3 i hi).1, (h3 i hi).2.1⟩
  show [_, _, _, SV.ro (rolesSV (eOf (nthD (ptsD d) 3)))] = [SV.int .u16 (((iOf (nthD (ptsD d) 0)).toNat : Nat) : Int), SV.int .u32 (((iOf (nthD (ptsD d) 1)).toNat : Nat) : Int), _, SV.ro (rawRoles ((eOf (nthD (ptsD d) 3)).map pairD))]
  rw [Int.toNat_of_nonneg a0.1, Int.toNat_of_nonneg a1.1, e]
  rfl
end
end Go.Proofs.YtegbdcadlmefgaaDoor
end
section
namespace Go.Proofs.YtegbdcadlmefgaaDoor
open Go.RowKit V
set_option maxRecDepth 100000
set_option linter.unusedSimpArgs false
def partsN (l : List PartL) : Nat := (l.map fun p => 33 + p.name.length).sum
def rolesN (l : List RoleL) : Nat := (l.map fun p => 3 + p.name.length + p.keys.length).sum
theorem flat_len {α : Type} (f : α → List UInt8) (k : Nat) : ∀ (l : List α), (∀ x ∈ l, (f x).length = k) → (l.flatMap f).length = k * l.length
  | [], _ => rfl
  | x :: r, h => by
    rw [List.flatMap_cons, List.length_append, flat_len f k r (fun y hy => h y (List.mem_cons_of_mem _ hy)), h x (List.mem_cons_self ..), List.length_cons, Nat.mul_succ]
    omega
theorem partsW_len : ∀ (l : List PartL), (∀ p ∈ l, p.hash.length = 32) → (partsW l).length = partsN l
  | [], _ => rfl
  | x :: r, h => by
    have ih := partsW_len r fun y hy => h y (List.mem_cons_of_mem _ hy)
    have hx := h x (List.mem_cons_self ..)
    unfold partsW partsN at *
    rw [List.flatMap_cons, List.length_append, ih, List.map_cons, List.sum_cons]
    simp only [List.length_append, num1_len, hx]
    omega
theorem bytesR_len (r : Rel) (hw : RelW r) : (bytesR r).length = 81 + 2 * r.gone.length + partsN r.parts := by
  unfold bytesR hdr
  simp only [List.length_append, num1_len, num2_len, num4_len, hw.image, hw.tree, partsW_len r.parts hw.parts, flat_len num2 2 r.gone fun _ _ => rfl]
  omega
theorem roleW_len (x : RoleL) : (roleW x).length = 3 + x.name.length + x.keys.length := by
  unfold roleW
  simp only [List.length_append, num1_len, flat_len num1 1 x.keys fun _ _ => rfl]
  omega
theorem rolesW_len : ∀ (l : List RoleL), (l.flatMap roleW).length = rolesN l
  | [] => rfl
  | x :: r => by
    rw [List.flatMap_cons, List.length_append, roleW_len, rolesW_len r]
    rfl
theorem bytesQ_len (r : RootL) (hw : RootW r) : (bytesQ r).length = 11 + 32 * r.keys.length + rolesN r.roles := by
  unfold bytesQ hdrR
  have hk : r.keys.flatten.length = 32 * r.keys.length := by
    rw [← List.flatMap_id]
    exact flat_len id 32 r.keys hw.keys
  simp only [List.length_append, num1_len, num4_len, rolesW_len, hk]
  omega
theorem sum_le {α : Type} (f : α → Nat) (b : Nat) : ∀ (l : List α), (∀ x ∈ l, f x ≤ b) → (l.map f).sum ≤ b * l.length
  | [], _ => Nat.le_refl _
  | x :: r, h => by
    rw [List.map_cons, List.sum_cons, List.length_cons, Nat.mul_succ]
    have := sum_le f b r fun y hy => h y (List.mem_cons_of_mem _ hy)
    have := h x (List.mem_cons_self ..)
    omega
theorem parts_name {r : Rel} (hv : validB r = true) : ∀ p ∈ r.parts, p.name.length ≤ 12 := by
  intro p hp
  obtain ⟨i, hi, rfl⟩ := mem_getD _ part0 p hp
  unfold validB at hv
  simp only [Bool.and_eq_true] at hv
  have h := (of_decide_eq_true hv.2.2.2 i hi).1
  unfold nameB inB at h
  simp only [Bool.and_eq_true, decide_eq_true_eq] at h
  omega
theorem bytesR_le (r : Rel) (hv : validB r = true) (hw : RelW r) : 81 ≤ (bytesR r).length ∧ (bytesR r).length ≤ 5000 := by
  rw [bytesR_len r hw]
  have h := valid_nums hv
  have := sum_le (fun p : PartL => 33 + p.name.length) 45 r.parts fun p hp => by have := parts_name hv p hp; omega
  have : partsN r.parts ≤ 45 * r.parts.length := this
  omega
theorem bytesQ_le (r : RootL) (hv : rootB r = true) (hw : RootW r) : 11 ≤ (bytesQ r).length ∧ (bytesQ r).length ≤ 5000 := by
  rw [bytesQ_len r hw]
  have h := root_nums hv
  have := sum_le (fun p : RoleL => 3 + p.name.length + p.keys.length) 520 r.roles fun p hp => by have := h.2.2.2.2 p hp; have h1 := this.1; have h2 := this.2.1; omega
  have : rolesN r.roles ≤ 520 * r.roles.length := this
  omega
end Go.Proofs.YtegbdcadlmefgaaDoor
end
section
namespace Go.Proofs.YtegbdcadlmefgaaDoor.V
open Go.RowKit
section
variable {C : Ctx} {Q0 : Exit → Act → World → Prop} {F F' F0 : Tr} {M M' M0 : Mem} {ids ids' ids0 : List Nat} {k : List Kont} {full rest : List Oper} {hist : List Ent} {i : Nat}
theorem DSat.goffM {d : Option Tmp} {op : Op} {type : TypeId} {pos : String} {after : Array Edge} {j : Nat} {want : Bool} {H : Prop} (v : SV) (hH : guardH F full j want = some H) (hh : ¬ H) (hp : putD C.N F d (some (.may H v)) some = some F')
    (h : DSat C Q0 k full F0 M0 ids0 (i + 1) (⟨i, d, some (.may H v), none, [], [], false⟩ :: hist) rest F' M ids) : DSat C Q0 k full F0 M0 ids0 i hist (⟨d, op, type, pos, after, some (j, want)⟩ :: rest) F M ids := by
  intro D
  obtain ⟨F1, h1, h2⟩ := putD_inv hp
  cases h1
  obtain ⟨p1, p2⟩ := putD_get h2
  refine h (D.step (fun ho Q K Fa Ma U E a w q1 q2 _ q3 hst hK => ?_) rfl rfl p2 (fun id => rfl) rfl)
  have hiff := guardH_ok (full := full) hst (guardH_le rfl q1 hH)
  have hy : ¬ (yielded full.toArray a.tmps j == some want) = true := fun hy => hh (hiff.1 hy)
  obtain ⟨F2, hF2⟩ := tr_put Fa d (some (.may H v))
  unfold wpOp
  simp only [List.getElem?_toArray, ho]
  simp only [Region.wanted, hy]
  exact hK F2 Ma U E _ w hF2 (fun id => rfl) (fun k => by simp) (hst.putG p1 hF2 fun s' hs' => by cases hs'; exact .may0 _ _ hh)
/-! ### A row that stands in the elements of another -/
def setGK {α : Type} (Y : Nat) (g : Nat → List SV) : Mem → (Mem → Option α) → Option α
  | [], K => K []
  | (i, B) :: r, K => match Nat.beq i Y with
    | true => match B with
      | .row t (.g n sz _) => K ((i, .row t (.g n sz g)) :: r)
      | _ => none
    | false => setGK Y g r fun r' => K ((i, B) :: r')
theorem setGK_inv {α : Type} {Y : Nat} {g : Nat → List SV} {x : α} : ∀ {L : Mem} {K : Mem → Option α}, setGK Y g L K = some x → ∃ L', K L' = some x
  | [], K, h => ⟨_, h⟩
  | (i, B) :: r, K, h => by
    simp only [setGK] at h
    split at h
    · split at h
      · exact ⟨_, h⟩
      · cases h
    · obtain ⟨L', h'⟩ := setGK_inv h
      exact ⟨_, h'⟩
def nst (wide : Bool) (pins : List Nat) (ids : List Nat) (X Y : Nat) (g : Nat → List SV) (F : Tr) (M : Mem) : Option Frz :=
  frzTK M true X F fun F' => frzMK M true X M fun M1 => setGK Y g M1 fun M' => match intoF wide pins [(1000 + Y, none)] F M F' M' ids with
    | some φ => some ⟨F', M', φ⟩
    | none => none
theorem nst_ok {X Y : Nat} {g : Nat → List SV} {φ : List Prop} {U : Nat → Prop} {E : Env} {a : Act} {w : World} (h : nst C.wide C.pins ids X Y g F M = some ⟨F', M', φ⟩) (hφ : AllP φ) (hst : St C F M U E a w) : ∃ U' E', Sup ids U' ∧ St C F' M' U' E' a w := by
  unfold nst at h
  rw [frzTK_eq, frzMK_eq] at h
  obtain ⟨L', h⟩ := setGK_inv h
  split at h
  · rename_i ψ hi
    simp only [Option.some.injEq, Frz.mk.injEq] at h
    obtain ⟨rfl, rfl, rfl⟩ := h
    exact into_ok hst hi hφ
  · cases h
/-- Row X, which stands in elements of row Y, is given up; Y's elements are said anew. -/
theorem Sat.nest {φ : List Prop} (X Y : Nat) (g : Nat → List SV) (hz : nst C.wide C.pins ids X Y g F M = some ⟨F', M', φ⟩) (hφ : AllP φ) (hn : Sat C Q0 (.reg full rest F' M' ids k)) : Sat C Q0 (.reg full rest F M ids k) := by
  intro U E a w _ hst
  obtain ⟨U', E', h1, h2⟩ := nst_ok hz hφ hst
  exact hn U' E' a w h1 h2
end
end Go.Proofs.YtegbdcadlmefgaaDoor.V
end
section
namespace Go.Proofs.YtegbdcadlmefgaaDoor
open Go.RowKit V
--PURE: (intro _ _; simp [pureL, pureS, pureE]; done)
set_option maxRecDepth 100000
set_option maxHeartbeats 4000000
set_option linter.unusedSimpArgs false
/-- A part of some bytes replaced. -/
def spoilB (d put : List UInt8) (a b : Int) : List UInt8 := [] ++ List.take ((some (a % (((EV.u8 d).len : Int) + 1)).toNat).getD (EV.u8 d).len - (none : Option Nat).getD 0) (List.drop ((none : Option Nat).getD 0) d) ++ put ++ List.take ((none : Option Nat).getD (EV.u8 d).len - (some (minV (a % (((EV.u8 d).len : Int) + 1) + b.tmod 8) ((EV.u8 d).len : Int)).toNat).getD 0) (List.drop ((some (minV (a % (((EV.u8 d).len : Int) + 1) + b.tmod 8) ((EV.u8 d).len : Int)).toNat).getD 0) d)
theorem spoilB_len (d put : List UInt8) (a b : Int) : 0 + (EV.u8 (List.take ((some (a % (((EV.u8 d).len : Int) + 1)).toNat).getD (EV.u8 d).len - (none : Option Nat).getD 0) (List.drop ((none : Option Nat).getD 0) d))).len + (EV.u8 put).len + (EV.u8 (List.take ((none : Option Nat).getD (EV.u8 d).len - (some (minV (a % (((EV.u8 d).len : Int) + 1) + b.tmod 8) ((EV.u8 d).len : Int)).toNat).getD 0) (List.drop ((some (minV (a % (((EV.u8 d).len : Int) + 1) + b.tmod 8) ((EV.u8 d).len : Int)).toNat).getD 0) d))).len = (EV.u8 (spoilB d put a b)).len := by
  unfold spoilB
  simp only [EV.len, List.length_append, List.length_nil]
theorem p23t (b : List UInt8) (h : okP b = true) : Fun Tryd.prog [] 23 [.ro (.u8 b)] (.tup [(parseP b).v, .int .i64 0]) := by
  have x := parse_walk b
  rw [h] at x
  exact x
theorem p23f (b : List UInt8) (h : okP b = false) : Fun Tryd.prog [] 23 [.ro (.u8 b)] (.tup [zeroRel.v, .int .i64 260]) := by
  have x := parse_walk b
  rw [h] at x
  exact x
theorem p27t (b : List UInt8) (h : okP b = true) : Fun Tryd.prog [] 27 [.ro (.u8 b)] (.tup [(parseP b).v, .int .i64 0]) := by
  have x := parseR_spec b
  rw [h] at x
  exact x
theorem p27f (b : List UInt8) (h : okP b = false) : Fun Tryd.prog [] 27 [.ro (.u8 b)] (.tup [zeroRel.v, .int .i64 260]) := by
  have x := parseR_spec b
  rw [h] at x
  exact x
theorem p15t (b : List UInt8) (h : okP b = true) : Fun Tryd.prog [] 15 [(parseP b).v] (.ro (.u8 b)) := by
  have x := bytes_spec (parseP b) (okP_inv h).2
  rw [← (okP_inv h).1] at x
  exact x
theorem x14r (l : List UInt8) : Fun Tryd.prog [] 14 [.ro (.u8 l), .ro (.u8 l)] (.bool true) := by
  have h := same_ref l l
  rw [decide_eq_true rfl] at h
  exact h
attribute [local irreducible] V.Sat V.DSat parseP okP bytesR
theorem spoil_side (d : List UInt8) (a : Int) {b : Int} (hb : 0 ≤ b ∧ b ≤ 65535) :
    (0 ≤ a % ((d.length : Int) + 1) ∧ a % ((d.length : Int) + 1) ≤ d.length) ∧ (0 ≤ b.tmod 8 ∧ b.tmod 8 < 8) ∧ 0 ≤ minV (a % ((d.length : Int) + 1) + b.tmod 8) d.length ∧ minV (a % ((d.length : Int) + 1) + b.tmod 8) d.length ≤ d.length := by
  have q1 := Int.emod_nonneg a (show ((d.length : Int) + 1) ≠ 0 by omega)
  have q2 := Int.emod_lt_of_pos a (show 0 < (d.length : Int) + 1 by omega)
  have q3 : b.tmod 8 = b % 8 := Int.tmod_eq_emod_of_nonneg (by omega)
  have q4 := Int.emod_nonneg b (show (8 : Int) ≠ 0 by omega)
  have q5 := Int.emod_lt_of_pos b (show (0 : Int) < 8 by omega)
  refine ⟨⟨q1, by omega⟩, by omega, ?_⟩
  unfold minV
  split <;> omega
theorem parses_law (x : RawL) (put : List UInt8) (a b : Int) : Fun Tryd.prog [] 5 [x.v, .ro (.u8 put), .agg [.int .u16 a, .int .u16 b]] (.bool true) := by
  refine Fun.mkF 7 Tryd.func5 rfl Tryd.ntmps5 rfl rfl fun hf T w0 => ?_
  have g1 := u16_iff hf.1.1
  have g2 := u16_iff hf.2.2.1.1
  have g3 := u16_iff hf.2.2.1.2.1
  have m1 := made_walk x (by omega)
  have hv := madeR_valid x
  have hw := madeR_wf x
  generalize madeR x = r at *
  have b1 := bytesR_spec r hv
  have hd := bytesR_le r hv hw
  generalize bytesR r = d at *
  repeat' (first
      | ((with_reducible apply Sat.run (X := X64)); exact rfl; (first | exact True.intro | (exact phi) | skip))
      | ((with_reducible apply Sat.drawn); kernel_rfl)
      | ((with_reducible apply DSat.run (X := X64)); exact rfl; (first | exact True.intro | (exact phi) | skip))
      | ((with_reducible apply DSat.fin); kernel_rfl)
      | ((with_reducible apply Sat.gon); exact rfl; first | exact rfl | (decide +kernel))
      | ((with_reducible apply Sat.call0 (sanity_law)); exact rfl; exact rfl; kernel_rfl; exact rfl)
      | ((with_reducible apply DSat.call0 (sanity_law)); exact rfl; exact rfl; kernel_rfl; exact rfl)
      | ((with_reducible apply DSat.callM0 (sanity_law)); exact rfl; exact rfl; (first | exact rfl | assumption | (decide +kernel)); exact rfl; kernel_rfl; exact rfl) | fail)
  with_reducible apply Sat.cond_p
  · exact rfl
  · intro h
    repeat' (first
        | ((with_reducible apply Sat.run (X := X64)); exact rfl; (first | exact True.intro | (exact phi) | skip))
        | ((with_reducible apply Sat.drawn); kernel_rfl)
        | ((with_reducible apply DSat.run (X := X64)); exact rfl; (first | exact True.intro | (exact phi) | skip))
        | ((with_reducible apply DSat.fin); kernel_rfl) | fail)
    (refine Sat.fin (Sat.end1 rfl rfl rfl True.intro (.refl _ purX) (by first | exact .inl rfl | exact .inr rfl) (fun _ h => h)) ?_; (first | exact rfl | exact congrArg SV.bool (by decide +kernel)))
  · intro h
    repeat' (first
        | ((with_reducible apply Sat.run (X := X64)); exact rfl; (first | exact True.intro | (exact phi) | skip))
        | ((with_reducible apply Sat.drawn); kernel_rfl)
        | ((with_reducible apply DSat.run (X := X64)); exact rfl; (first | exact True.intro | (exact phi) | skip))
        | ((with_reducible apply DSat.fin); kernel_rfl)
        | ((with_reducible apply Sat.call (m1)); exact rfl; exact rfl; kernel_rfl; (exact cnvX); exact rfl)
        | ((with_reducible apply DSat.call (m1)); exact rfl; exact rfl; kernel_rfl; (exact cnvX); exact rfl) | fail)
    with_reducible apply Sat.call b1
    · exact rfl
    · exact rfl
    · kernel_rfl
    · exact cnvX
    · exact rfl
    refine Sat.runN (X := X64) 20 rfl ?_ ?_
    · obtain ⟨⟨q1, q2⟩, ⟨q3, q4⟩, q5, q6⟩ := spoil_side d a g3
      have hp : ¬ 300 < (put.length : Int) := h
      simp only [EV.len, Option.getD, List.length_append, List.length_take, List.length_drop, List.length_nil, List.drop_zero, List.nil_append, List.append_nil, List.cons_append]
      generalize a % ((d.length : Int) + 1) = i at *
      generalize b.tmod 8 = z at *
      generalize minV (i + z) d.length = m at *
      (repeat' (first | exact AllP.nil | with_reducible refine AllP.cons ?_ ?_)) <;> first | omega | (apply inR_i64 <;> omega)
    have hlen := spoilB_len d put a b
    refine Sat.tidy rfl ?_
    refine Sat.freezeR true 5 rfl ?_ ?_
    · (repeat' (first | exact AllP.nil | with_reducible refine AllP.cons ?_ ?_)) <;> first | exact rfl | exact trivial | exact .inl ⟨rfl, hlen, rfl⟩ | exact .inl ⟨rfl, rfl, rfl⟩ | (intro _ _; simp [pureL, pureS, pureE]; done) | exact ⟨rfl, rfl, rfl, rfl⟩
    have r1 := x14r put
    have r2 := x14r (spoilB d put a b)
    have r3 := s25 zeroRel
    have r4 := s25 (parseP put)
    have r5 := s25 (parseP (spoilB d put a b))
    cases h1 : okP put with
    | true =>
      have k1 := p23t put h1
      have k2 := p27t put h1
      have k3 := p15t put h1
      cases h2 : okP (spoilB d put a b) with
      | true =>
        have l1 := p23t _ h2
        have l2 := p27t _ h2
        have l3 := p15t _ h2
        repeat' (first
            | ((with_reducible apply Sat.run (X := X64)); exact rfl; (first | exact True.intro | (exact phi) | skip))
            | ((with_reducible apply Sat.drawn); kernel_rfl)
            | ((with_reducible apply DSat.run (X := X64)); exact rfl; (first | exact True.intro | (exact phi) | skip))
            | ((with_reducible apply DSat.fin); kernel_rfl)
            | (with_reducible apply Sat.unroll 40)
            | (with_reducible apply Sat.again)
            | ((with_reducible apply Sat.cond_t); exact rfl)
            | ((with_reducible apply Sat.cond_f); exact rfl)
            | ((with_reducible apply Sat.cond_pt); exact rfl; (try dsimp only [V.EV.sub, V.EV.len]); first | assumption | omega)
            | ((with_reducible apply Sat.cond_pf); exact rfl; (try dsimp only [V.EV.sub, V.EV.len]); first | assumption | omega)
            | ((with_reducible apply Sat.cond_p); exact rfl; all_goals intro h)
            | ((with_reducible apply Sat.cond); exact rfl; all_goals intro h)
            | ((with_reducible apply Sat.gon); exact rfl; first | exact rfl | (decide +kernel))
            | ((with_reducible apply Sat.call (k1)); exact rfl; exact rfl; kernel_rfl; (exact cnvX); exact rfl)
            | ((with_reducible apply DSat.call (k1)); exact rfl; exact rfl; kernel_rfl; (exact cnvX); exact rfl)
            | ((with_reducible apply Sat.call (l1)); exact rfl; exact rfl; kernel_rfl; (exact cnvX); exact rfl)
            | ((with_reducible apply DSat.call (l1)); exact rfl; exact rfl; kernel_rfl; (exact cnvX); exact rfl)
            | ((with_reducible apply Sat.call (k2)); exact rfl; exact rfl; kernel_rfl; (exact cnvX); exact rfl)
            | ((with_reducible apply DSat.call (k2)); exact rfl; exact rfl; kernel_rfl; (exact cnvX); exact rfl)
            | ((with_reducible apply Sat.call (l2)); exact rfl; exact rfl; kernel_rfl; (exact cnvX); exact rfl)
            | ((with_reducible apply DSat.call (l2)); exact rfl; exact rfl; kernel_rfl; (exact cnvX); exact rfl)
            | ((with_reducible apply DSat.callM (k3)); exact rfl; exact rfl; (first | exact rfl | assumption | (decide +kernel)); exact rfl; kernel_rfl; (exact cnvX); exact rfl)
            | ((with_reducible apply DSat.callM (l3)); exact rfl; exact rfl; (first | exact rfl | assumption | (decide +kernel)); exact rfl; kernel_rfl; (exact cnvX); exact rfl)
            | ((with_reducible apply Sat.callR (r4)); exact rfl; exact rfl; exact rfl; kernel_rfl; (exact cnvX); exact rfl)
            | ((with_reducible apply DSat.callR (r4)); exact rfl; exact rfl; exact rfl; kernel_rfl; (exact cnvX); exact rfl)
            | ((with_reducible apply Sat.callR (r5)); exact rfl; exact rfl; exact rfl; kernel_rfl; (exact cnvX); exact rfl)
            | ((with_reducible apply DSat.callR (r5)); exact rfl; exact rfl; exact rfl; kernel_rfl; (exact cnvX); exact rfl)
            | ((with_reducible apply Sat.callG1 (r1)); exact rfl; exact rfl; exact rfl; exact rfl; kernel_rfl; (intro hG; (exact cnvX)); exact rfl)
            | ((with_reducible apply DSat.callG1 (r1)); exact rfl; exact rfl; exact rfl; exact rfl; kernel_rfl; (intro hG; (exact cnvX)); exact rfl)
            | ((with_reducible apply Sat.callG1 (r2)); exact rfl; exact rfl; exact rfl; exact rfl; kernel_rfl; (intro hG; (exact cnvX)); exact rfl)
            | ((with_reducible apply DSat.callG1 (r2)); exact rfl; exact rfl; exact rfl; exact rfl; kernel_rfl; (intro hG; (exact cnvX)); exact rfl) | fail)
        all_goals (refine Sat.fin (Sat.end1 rfl rfl rfl True.intro (.refl _ purX) (by first | exact .inl rfl | exact .inr rfl) (fun _ h => h)) ?_; (first | exact rfl | exact congrArg SV.bool (by decide +kernel)))
      | false =>
        have l1 := p23f _ h2
        have l2 := p27f _ h2
        repeat' (first
            | ((with_reducible apply Sat.run (X := X64)); exact rfl; (first | exact True.intro | (exact phi) | skip))
            | ((with_reducible apply Sat.drawn); kernel_rfl)
            | ((with_reducible apply DSat.run (X := X64)); exact rfl; (first | exact True.intro | (exact phi) | skip))
            | ((with_reducible apply DSat.fin); kernel_rfl)
            | (with_reducible apply Sat.unroll 40)
            | (with_reducible apply Sat.again)
            | ((with_reducible apply Sat.cond_t); exact rfl)
            | ((with_reducible apply Sat.cond_f); exact rfl)
            | ((with_reducible apply Sat.cond_pt); exact rfl; (try dsimp only [V.EV.sub, V.EV.len]); first | assumption | omega)
            | ((with_reducible apply Sat.cond_pf); exact rfl; (try dsimp only [V.EV.sub, V.EV.len]); first | assumption | omega)
            | ((with_reducible apply Sat.cond_p); exact rfl; all_goals intro h)
            | ((with_reducible apply Sat.cond); exact rfl; all_goals intro h)
            | ((with_reducible apply Sat.gon); exact rfl; first | exact rfl | (decide +kernel))
            | ((with_reducible apply Sat.call (k1)); exact rfl; exact rfl; kernel_rfl; (exact cnvX); exact rfl)
            | ((with_reducible apply DSat.call (k1)); exact rfl; exact rfl; kernel_rfl; (exact cnvX); exact rfl)
            | ((with_reducible apply Sat.call (l1)); exact rfl; exact rfl; kernel_rfl; (exact cnvX); exact rfl)
            | ((with_reducible apply DSat.call (l1)); exact rfl; exact rfl; kernel_rfl; (exact cnvX); exact rfl)
            | ((with_reducible apply Sat.call (k2)); exact rfl; exact rfl; kernel_rfl; (exact cnvX); exact rfl)
            | ((with_reducible apply DSat.call (k2)); exact rfl; exact rfl; kernel_rfl; (exact cnvX); exact rfl)
            | ((with_reducible apply Sat.call (l2)); exact rfl; exact rfl; kernel_rfl; (exact cnvX); exact rfl)
            | ((with_reducible apply DSat.call (l2)); exact rfl; exact rfl; kernel_rfl; (exact cnvX); exact rfl)
            | ((with_reducible apply DSat.callM (k3)); exact rfl; exact rfl; (first | exact rfl | assumption | (decide +kernel)); exact rfl; kernel_rfl; (exact cnvX); exact rfl)
            | ((with_reducible apply Sat.callR (r4)); exact rfl; exact rfl; exact rfl; kernel_rfl; (exact cnvX); exact rfl)
            | ((with_reducible apply DSat.callR (r4)); exact rfl; exact rfl; exact rfl; kernel_rfl; (exact cnvX); exact rfl)
            | ((with_reducible apply Sat.callR (r3)); exact rfl; exact rfl; exact rfl; kernel_rfl; (exact cnvX); exact rfl)
            | ((with_reducible apply DSat.callR (r3)); exact rfl; exact rfl; exact rfl; kernel_rfl; (exact cnvX); exact rfl)
            | ((with_reducible apply Sat.callG1 (r1)); exact rfl; exact rfl; exact rfl; exact rfl; kernel_rfl; (intro hG; (exact cnvX)); exact rfl)
            | ((with_reducible apply DSat.callG1 (r1)); exact rfl; exact rfl; exact rfl; exact rfl; kernel_rfl; (intro hG; (exact cnvX)); exact rfl)
            | ((with_reducible apply Sat.goffM (.bool true)); exact rfl; (first | (decide +kernel) | assumption); exact rfl)
            | ((with_reducible apply DSat.goffM (.bool true)); exact rfl; (first | (decide +kernel) | assumption); exact rfl) | fail)
        all_goals (refine Sat.fin (Sat.end1 rfl rfl rfl True.intro (.refl _ purX) (by first | exact .inl rfl | exact .inr rfl) (fun _ h => h)) ?_; (first | exact rfl | exact congrArg SV.bool (by decide +kernel)))
    | false =>
      have k1 := p23f put h1
      have k2 := p27f put h1
      cases h2 : okP (spoilB d put a b) with
      | true =>
        have l1 := p23t _ h2
        have l2 := p27t _ h2
        have l3 := p15t _ h2
        repeat' (first
            | ((with_reducible apply Sat.run (X := X64)); exact rfl; (first | exact True.intro | (exact phi) | skip))
            | ((with_reducible apply Sat.drawn); kernel_rfl)
            | ((with_reducible apply DSat.run (X := X64)); exact rfl; (first | exact True.intro | (exact phi) | skip))
            | ((with_reducible apply DSat.fin); kernel_rfl)
            | (with_reducible apply Sat.unroll 40)
            | (with_reducible apply Sat.again)
            | ((with_reducible apply Sat.cond_t); exact rfl)
            | ((with_reducible apply Sat.cond_f); exact rfl)
            | ((with_reducible apply Sat.cond_pt); exact rfl; (try dsimp only [V.EV.sub, V.EV.len]); first | assumption | omega)
            | ((with_reducible apply Sat.cond_pf); exact rfl; (try dsimp only [V.EV.sub, V.EV.len]); first | assumption | omega)
            | ((with_reducible apply Sat.cond_p); exact rfl; all_goals intro h)
            | ((with_reducible apply Sat.cond); exact rfl; all_goals intro h)
            | ((with_reducible apply Sat.gon); exact rfl; first | exact rfl | (decide +kernel))
            | ((with_reducible apply Sat.call (k1)); exact rfl; exact rfl; kernel_rfl; (exact cnvX); exact rfl)
            | ((with_reducible apply DSat.call (k1)); exact rfl; exact rfl; kernel_rfl; (exact cnvX); exact rfl)
            | ((with_reducible apply Sat.call (l1)); exact rfl; exact rfl; kernel_rfl; (exact cnvX); exact rfl)
            | ((with_reducible apply DSat.call (l1)); exact rfl; exact rfl; kernel_rfl; (exact cnvX); exact rfl)
            | ((with_reducible apply Sat.call (k2)); exact rfl; exact rfl; kernel_rfl; (exact cnvX); exact rfl)
            | ((with_reducible apply DSat.call (k2)); exact rfl; exact rfl; kernel_rfl; (exact cnvX); exact rfl)
            | ((with_reducible apply Sat.call (l2)); exact rfl; exact rfl; kernel_rfl; (exact cnvX); exact rfl)
            | ((with_reducible apply DSat.call (l2)); exact rfl; exact rfl; kernel_rfl; (exact cnvX); exact rfl)
            | ((with_reducible apply DSat.callM (l3)); exact rfl; exact rfl; (first | exact rfl | assumption | (decide +kernel)); exact rfl; kernel_rfl; (exact cnvX); exact rfl)
            | ((with_reducible apply Sat.callR (r3)); exact rfl; exact rfl; exact rfl; kernel_rfl; (exact cnvX); exact rfl)
            | ((with_reducible apply DSat.callR (r3)); exact rfl; exact rfl; exact rfl; kernel_rfl; (exact cnvX); exact rfl)
            | ((with_reducible apply Sat.callR (r5)); exact rfl; exact rfl; exact rfl; kernel_rfl; (exact cnvX); exact rfl)
            | ((with_reducible apply DSat.callR (r5)); exact rfl; exact rfl; exact rfl; kernel_rfl; (exact cnvX); exact rfl)
            | ((with_reducible apply Sat.callG1 (r2)); exact rfl; exact rfl; exact rfl; exact rfl; kernel_rfl; (intro hG; (exact cnvX)); exact rfl)
            | ((with_reducible apply DSat.callG1 (r2)); exact rfl; exact rfl; exact rfl; exact rfl; kernel_rfl; (intro hG; (exact cnvX)); exact rfl)
            | ((with_reducible apply Sat.goffM (.bool true)); exact rfl; (first | (decide +kernel) | assumption); exact rfl)
            | ((with_reducible apply DSat.goffM (.bool true)); exact rfl; (first | (decide +kernel) | assumption); exact rfl) | fail)
        all_goals (refine Sat.fin (Sat.end1 rfl rfl rfl True.intro (.refl _ purX) (by first | exact .inl rfl | exact .inr rfl) (fun _ h => h)) ?_; (first | exact rfl | exact congrArg SV.bool (by decide +kernel)))
      | false =>
        have l1 := p23f _ h2
        have l2 := p27f _ h2
        repeat' (first
            | ((with_reducible apply Sat.run (X := X64)); exact rfl; (first | exact True.intro | (exact phi) | skip))
            | ((with_reducible apply Sat.drawn); kernel_rfl)
            | ((with_reducible apply DSat.run (X := X64)); exact rfl; (first | exact True.intro | (exact phi) | skip))
            | ((with_reducible apply DSat.fin); kernel_rfl)
            | (with_reducible apply Sat.unroll 40)
            | (with_reducible apply Sat.again)
            | ((with_reducible apply Sat.cond_t); exact rfl)
            | ((with_reducible apply Sat.cond_f); exact rfl)
            | ((with_reducible apply Sat.cond_pt); exact rfl; (try dsimp only [V.EV.sub, V.EV.len]); first | assumption | omega)
            | ((with_reducible apply Sat.cond_pf); exact rfl; (try dsimp only [V.EV.sub, V.EV.len]); first | assumption | omega)
            | ((with_reducible apply Sat.cond_p); exact rfl; all_goals intro h)
            | ((with_reducible apply Sat.cond); exact rfl; all_goals intro h)
            | ((with_reducible apply Sat.gon); exact rfl; first | exact rfl | (decide +kernel))
            | ((with_reducible apply Sat.call (k1)); exact rfl; exact rfl; kernel_rfl; (exact cnvX); exact rfl)
            | ((with_reducible apply DSat.call (k1)); exact rfl; exact rfl; kernel_rfl; (exact cnvX); exact rfl)
            | ((with_reducible apply Sat.call (l1)); exact rfl; exact rfl; kernel_rfl; (exact cnvX); exact rfl)
            | ((with_reducible apply DSat.call (l1)); exact rfl; exact rfl; kernel_rfl; (exact cnvX); exact rfl)
            | ((with_reducible apply Sat.call (k2)); exact rfl; exact rfl; kernel_rfl; (exact cnvX); exact rfl)
            | ((with_reducible apply DSat.call (k2)); exact rfl; exact rfl; kernel_rfl; (exact cnvX); exact rfl)
            | ((with_reducible apply Sat.call (l2)); exact rfl; exact rfl; kernel_rfl; (exact cnvX); exact rfl)
            | ((with_reducible apply DSat.call (l2)); exact rfl; exact rfl; kernel_rfl; (exact cnvX); exact rfl)
            | ((with_reducible apply Sat.callR (r3)); exact rfl; exact rfl; exact rfl; kernel_rfl; (exact cnvX); exact rfl)
            | ((with_reducible apply DSat.callR (r3)); exact rfl; exact rfl; exact rfl; kernel_rfl; (exact cnvX); exact rfl)
            | ((with_reducible apply Sat.goffM (.bool true)); exact rfl; (first | (decide +kernel) | assumption); exact rfl)
            | ((with_reducible apply DSat.goffM (.bool true)); exact rfl; (first | (decide +kernel) | assumption); exact rfl) | fail)
        all_goals (refine Sat.fin (Sat.end1 rfl rfl rfl True.intro (.refl _ purX) (by first | exact .inl rfl | exact .inr rfl) (fun _ h => h)) ?_; (first | exact rfl | exact congrArg SV.bool (by decide +kernel)))
end Go.Proofs.YtegbdcadlmefgaaDoor
end
section
namespace Go.Proofs.YtegbdcadlmefgaaDoor
open Go.RowKit V
--PURE: (intro _ _; simp [pureL, pureS, pureE]; done)
set_option maxRecDepth 100000
set_option maxHeartbeats 4000000
set_option linter.unusedSimpArgs false
theorem p24t (b : List UInt8) (h : okQ b = true) : Fun Tryd.prog [] 24 [.ro (.u8 b)] (.tup [(parseQ b).v, .int .i64 0]) := by
  have x := parseRoot_walk b
  rw [h] at x
  exact x
theorem p24f (b : List UInt8) (h : okQ b = false) : Fun Tryd.prog [] 24 [.ro (.u8 b)] (.tup [zeroRoot.v, .int .i64 260]) := by
  have x := parseRoot_walk b
  rw [h] at x
  exact x
theorem p28t (b : List UInt8) (h : okQ b = true) : Fun Tryd.prog [] 28 [.ro (.u8 b)] (.tup [(parseQ b).v, .int .i64 0]) := by
  have x := parseRootR_spec b
  rw [h] at x
  exact x
theorem p28f (b : List UInt8) (h : okQ b = false) : Fun Tryd.prog [] 28 [.ro (.u8 b)] (.tup [zeroRoot.v, .int .i64 260]) := by
  have x := parseRootR_spec b
  rw [h] at x
  exact x
theorem p19t (b : List UInt8) (h : okQ b = true) : Fun Tryd.prog [] 19 [(parseQ b).v] (.ro (.u8 b)) := by
  have x := rootBytes_spec (parseQ b) (okQ_inv h).2
  rw [← (okQ_inv h).1] at x
  exact x
attribute [local irreducible] V.Sat V.DSat parseQ okQ bytesQ
theorem rootParses_law (x : RawQ) (put : List UInt8) (a b : Int) : Fun Tryd.prog [] 6 [x.v, .ro (.u8 put), .agg [.int .u16 a, .int .u16 b]] (.bool true) := by
  refine Fun.mkF 7 Tryd.func6 rfl Tryd.ntmps6 rfl rfl fun hf T w0 => ?_
  have g1 := u16_iff hf.1.1
  have g2 := u16_iff hf.2.2.1.1
  have g3 := u16_iff hf.2.2.1.2.1
  have m1 := madeRoot_walk x
  have hv := madeQ_valid x (by omega)
  have hw := madeQ_wf x
  generalize madeQ x = r at *
  have b1 := rootBytesR_spec r hv
  have hd := bytesQ_le r hv hw
  generalize bytesQ r = d at *
  repeat' (first
      | ((with_reducible apply Sat.run (X := X64)); exact rfl; (first | exact True.intro | (exact phi) | skip))
      | ((with_reducible apply Sat.drawn); kernel_rfl)
      | ((with_reducible apply DSat.run (X := X64)); exact rfl; (first | exact True.intro | (exact phi) | skip))
      | ((with_reducible apply DSat.fin); kernel_rfl)
      | ((with_reducible apply Sat.gon); exact rfl; first | exact rfl | (decide +kernel))
      | ((with_reducible apply Sat.call0 (sanity_law)); exact rfl; exact rfl; kernel_rfl; exact rfl)
      | ((with_reducible apply DSat.call0 (sanity_law)); exact rfl; exact rfl; kernel_rfl; exact rfl)
      | ((with_reducible apply DSat.callM0 (sanity_law)); exact rfl; exact rfl; (first | exact rfl | assumption | (decide +kernel)); exact rfl; kernel_rfl; exact rfl) | fail)
  with_reducible apply Sat.cond_p
  · exact rfl
  · intro h
    repeat' (first
        | ((with_reducible apply Sat.run (X := X64)); exact rfl; (first | exact True.intro | (exact phi) | skip))
        | ((with_reducible apply Sat.drawn); kernel_rfl)
        | ((with_reducible apply DSat.run (X := X64)); exact rfl; (first | exact True.intro | (exact phi) | skip))
        | ((with_reducible apply DSat.fin); kernel_rfl) | fail)
    (refine Sat.fin (Sat.end1 rfl rfl rfl True.intro (.refl _ purX) (by first | exact .inl rfl | exact .inr rfl) (fun _ h => h)) ?_; (first | exact rfl | exact congrArg SV.bool (by decide +kernel)))
  · intro h
    repeat' (first
        | ((with_reducible apply Sat.run (X := X64)); exact rfl; (first | exact True.intro | (exact phi) | skip))
        | ((with_reducible apply Sat.drawn); kernel_rfl)
        | ((with_reducible apply DSat.run (X := X64)); exact rfl; (first | exact True.intro | (exact phi) | skip))
        | ((with_reducible apply DSat.fin); kernel_rfl)
        | ((with_reducible apply Sat.call (m1)); exact rfl; exact rfl; kernel_rfl; (exact cnvX); exact rfl)
        | ((with_reducible apply DSat.call (m1)); exact rfl; exact rfl; kernel_rfl; (exact cnvX); exact rfl) | fail)
    with_reducible apply Sat.call b1
    · exact rfl
    · exact rfl
    · kernel_rfl
    · exact cnvX
    · exact rfl
    refine Sat.runN (X := X64) 20 rfl ?_ ?_
    · obtain ⟨⟨q1, q2⟩, ⟨q3, q4⟩, q5, q6⟩ := spoil_side d a g3
      have hp : ¬ 300 < (put.length : Int) := h
      simp only [EV.len, Option.getD, List.length_append, List.length_take, List.length_drop, List.length_nil, List.drop_zero, List.nil_append, List.append_nil, List.cons_append]
      generalize a % ((d.length : Int) + 1) = i at *
      generalize b.tmod 8 = z at *
      generalize minV (i + z) d.length = m at *
      (repeat' (first | exact AllP.nil | with_reducible refine AllP.cons ?_ ?_)) <;> first | omega | (apply inR_i64 <;> omega)
    have hlen := spoilB_len d put a b
    refine Sat.tidy rfl ?_
    refine Sat.freezeR true 5 rfl ?_ ?_
    · (repeat' (first | exact AllP.nil | with_reducible refine AllP.cons ?_ ?_)) <;> first | exact rfl | exact trivial | exact .inl ⟨rfl, hlen, rfl⟩ | exact .inl ⟨rfl, rfl, rfl⟩ | (intro _ _; simp [pureL, pureS, pureE]; done) | exact ⟨rfl, rfl, rfl, rfl⟩
    have r1 := x14r put
    have r2 := x14r (spoilB d put a b)
    have r3 := s26 zeroRoot
    have r4 := s26 (parseQ put)
    have r5 := s26 (parseQ (spoilB d put a b))
    cases h1 : okQ put with
    | true =>
      have k1 := p24t put h1
      have k2 := p28t put h1
      have k3 := p19t put h1
      cases h2 : okQ (spoilB d put a b) with
      | true =>
        have l1 := p24t _ h2
        have l2 := p28t _ h2
        have l3 := p19t _ h2
        repeat' (first
            | ((with_reducible apply Sat.run (X := X64)); exact rfl; (first | exact True.intro | (exact phi) | skip))
            | ((with_reducible apply Sat.drawn); kernel_rfl)
            | ((with_reducible apply DSat.run (X := X64)); exact rfl; (first | exact True.intro | (exact phi) | skip))
            | ((with_reducible apply DSat.fin); kernel_rfl)
            | (with_reducible apply Sat.unroll 40)
            | (with_reducible apply Sat.again)
            | ((with_reducible apply Sat.cond_t); exact rfl)
            | ((with_reducible apply Sat.cond_f); exact rfl)
            | ((with_reducible apply Sat.cond_pt); exact rfl; (try dsimp only [V.EV.sub, V.EV.len]); first | assumption | omega)
            | ((with_reducible apply Sat.cond_pf); exact rfl; (try dsimp only [V.EV.sub, V.EV.len]); first | assumption | omega)
            | ((with_reducible apply Sat.cond_p); exact rfl; all_goals intro h)
            | ((with_reducible apply Sat.cond); exact rfl; all_goals intro h)
            | ((with_reducible apply Sat.gon); exact rfl; first | exact rfl | (decide +kernel))
            | ((with_reducible apply Sat.call (k1)); exact rfl; exact rfl; kernel_rfl; (exact cnvX); exact rfl)
            | ((with_reducible apply DSat.call (k1)); exact rfl; exact rfl; kernel_rfl; (exact cnvX); exact rfl)
            | ((with_reducible apply Sat.call (l1)); exact rfl; exact rfl; kernel_rfl; (exact cnvX); exact rfl)
            | ((with_reducible apply DSat.call (l1)); exact rfl; exact rfl; kernel_rfl; (exact cnvX); exact rfl)
            | ((with_reducible apply Sat.call (k2)); exact rfl; exact rfl; kernel_rfl; (exact cnvX); exact rfl)
            | ((with_reducible apply DSat.call (k2)); exact rfl; exact rfl; kernel_rfl; (exact cnvX); exact rfl)
            | ((with_reducible apply Sat.call (l2)); exact rfl; exact rfl; kernel_rfl; (exact cnvX); exact rfl)
            | ((with_reducible apply DSat.call (l2)); exact rfl; exact rfl; kernel_rfl; (exact cnvX); exact rfl)
            | ((with_reducible apply DSat.callM (k3)); exact rfl; exact rfl; (first | exact rfl | assumption | (decide +kernel)); exact rfl; kernel_rfl; (exact cnvX); exact rfl)
            | ((with_reducible apply DSat.callM (l3)); exact rfl; exact rfl; (first | exact rfl | assumption | (decide +kernel)); exact rfl; kernel_rfl; (exact cnvX); exact rfl)
            | ((with_reducible apply Sat.callR (r4)); exact rfl; exact rfl; exact rfl; kernel_rfl; (exact cnvX); exact rfl)
            | ((with_reducible apply DSat.callR (r4)); exact rfl; exact rfl; exact rfl; kernel_rfl; (exact cnvX); exact rfl)
            | ((with_reducible apply Sat.callR (r5)); exact rfl; exact rfl; exact rfl; kernel_rfl; (exact cnvX); exact rfl)
            | ((with_reducible apply DSat.callR (r5)); exact rfl; exact rfl; exact rfl; kernel_rfl; (exact cnvX); exact rfl)
            | ((with_reducible apply Sat.callG1 (r1)); exact rfl; exact rfl; exact rfl; exact rfl; kernel_rfl; (intro hG; (exact cnvX)); exact rfl)
            | ((with_reducible apply DSat.callG1 (r1)); exact rfl; exact rfl; exact rfl; exact rfl; kernel_rfl; (intro hG; (exact cnvX)); exact rfl)
            | ((with_reducible apply Sat.callG1 (r2)); exact rfl; exact rfl; exact rfl; exact rfl; kernel_rfl; (intro hG; (exact cnvX)); exact rfl)
            | ((with_reducible apply DSat.callG1 (r2)); exact rfl; exact rfl; exact rfl; exact rfl; kernel_rfl; (intro hG; (exact cnvX)); exact rfl) | fail)
        all_goals (refine Sat.fin (Sat.end1 rfl rfl rfl True.intro (.refl _ purX) (by first | exact .inl rfl | exact .inr rfl) (fun _ h => h)) ?_; (first | exact rfl | exact congrArg SV.bool (by decide +kernel)))
      | false =>
        have l1 := p24f _ h2
        have l2 := p28f _ h2
        repeat' (first
            | ((with_reducible apply Sat.run (X := X64)); exact rfl; (first | exact True.intro | (exact phi) | skip))
            | ((with_reducible apply Sat.drawn); kernel_rfl)
            | ((with_reducible apply DSat.run (X := X64)); exact rfl; (first | exact True.intro | (exact phi) | skip))
            | ((with_reducible apply DSat.fin); kernel_rfl)
            | (with_reducible apply Sat.unroll 40)
            | (with_reducible apply Sat.again)
            | ((with_reducible apply Sat.cond_t); exact rfl)
            | ((with_reducible apply Sat.cond_f); exact rfl)
            | ((with_reducible apply Sat.cond_pt); exact rfl; (try dsimp only [V.EV.sub, V.EV.len]); first | assumption | omega)
            | ((with_reducible apply Sat.cond_pf); exact rfl; (try dsimp only [V.EV.sub, V.EV.len]); first | assumption | omega)
            | ((with_reducible apply Sat.cond_p); exact rfl; all_goals intro h)
            | ((with_reducible apply Sat.cond); exact rfl; all_goals intro h)
            | ((with_reducible apply Sat.gon); exact rfl; first | exact rfl | (decide +kernel))
            | ((with_reducible apply Sat.call (k1)); exact rfl; exact rfl; kernel_rfl; (exact cnvX); exact rfl)
            | ((with_reducible apply DSat.call (k1)); exact rfl; exact rfl; kernel_rfl; (exact cnvX); exact rfl)
            | ((with_reducible apply Sat.call (l1)); exact rfl; exact rfl; kernel_rfl; (exact cnvX); exact rfl)
            | ((with_reducible apply DSat.call (l1)); exact rfl; exact rfl; kernel_rfl; (exact cnvX); exact rfl)
            | ((with_reducible apply Sat.call (k2)); exact rfl; exact rfl; kernel_rfl; (exact cnvX); exact rfl)
            | ((with_reducible apply DSat.call (k2)); exact rfl; exact rfl; kernel_rfl; (exact cnvX); exact rfl)
            | ((with_reducible apply Sat.call (l2)); exact rfl; exact rfl; kernel_rfl; (exact cnvX); exact rfl)
            | ((with_reducible apply DSat.call (l2)); exact rfl; exact rfl; kernel_rfl; (exact cnvX); exact rfl)
            | ((with_reducible apply DSat.callM (k3)); exact rfl; exact rfl; (first | exact rfl | assumption | (decide +kernel)); exact rfl; kernel_rfl; (exact cnvX); exact rfl)
            | ((with_reducible apply Sat.callR (r4)); exact rfl; exact rfl; exact rfl; kernel_rfl; (exact cnvX); exact rfl)
            | ((with_reducible apply DSat.callR (r4)); exact rfl; exact rfl; exact rfl; kernel_rfl; (exact cnvX); exact rfl)
            | ((with_reducible apply Sat.callR (r3)); exact rfl; exact rfl; exact rfl; kernel_rfl; (exact cnvX); exact rfl)
            | ((with_reducible apply DSat.callR (r3)); exact rfl; exact rfl; exact rfl; kernel_rfl; (exact cnvX); exact rfl)
            | ((with_reducible apply Sat.callG1 (r1)); exact rfl; exact rfl; exact rfl; exact rfl; kernel_rfl; (intro hG; (exact cnvX)); exact rfl)
            | ((with_reducible apply DSat.callG1 (r1)); exact rfl; exact rfl; exact rfl; exact rfl; kernel_rfl; (intro hG; (exact cnvX)); exact rfl)
            | ((with_reducible apply Sat.goffM (.bool true)); exact rfl; (first | (decide +kernel) | assumption); exact rfl)
            | ((with_reducible apply DSat.goffM (.bool true)); exact rfl; (first | (decide +kernel) | assumption); exact rfl) | fail)
        all_goals (refine Sat.fin (Sat.end1 rfl rfl rfl True.intro (.refl _ purX) (by first | exact .inl rfl | exact .inr rfl) (fun _ h => h)) ?_; (first | exact rfl | exact congrArg SV.bool (by decide +kernel)))
    | false =>
      have k1 := p24f put h1
      have k2 := p28f put h1
      cases h2 : okQ (spoilB d put a b) with
      | true =>
        have l1 := p24t _ h2
        have l2 := p28t _ h2
        have l3 := p19t _ h2
        repeat' (first
            | ((with_reducible apply Sat.run (X := X64)); exact rfl; (first | exact True.intro | (exact phi) | skip))
            | ((with_reducible apply Sat.drawn); kernel_rfl)
            | ((with_reducible apply DSat.run (X := X64)); exact rfl; (first | exact True.intro | (exact phi) | skip))
            | ((with_reducible apply DSat.fin); kernel_rfl)
            | (with_reducible apply Sat.unroll 40)
            | (with_reducible apply Sat.again)
            | ((with_reducible apply Sat.cond_t); exact rfl)
            | ((with_reducible apply Sat.cond_f); exact rfl)
            | ((with_reducible apply Sat.cond_pt); exact rfl; (try dsimp only [V.EV.sub, V.EV.len]); first | assumption | omega)
            | ((with_reducible apply Sat.cond_pf); exact rfl; (try dsimp only [V.EV.sub, V.EV.len]); first | assumption | omega)
            | ((with_reducible apply Sat.cond_p); exact rfl; all_goals intro h)
            | ((with_reducible apply Sat.cond); exact rfl; all_goals intro h)
            | ((with_reducible apply Sat.gon); exact rfl; first | exact rfl | (decide +kernel))
            | ((with_reducible apply Sat.call (k1)); exact rfl; exact rfl; kernel_rfl; (exact cnvX); exact rfl)
            | ((with_reducible apply DSat.call (k1)); exact rfl; exact rfl; kernel_rfl; (exact cnvX); exact rfl)
            | ((with_reducible apply Sat.call (l1)); exact rfl; exact rfl; kernel_rfl; (exact cnvX); exact rfl)
            | ((with_reducible apply DSat.call (l1)); exact rfl; exact rfl; kernel_rfl; (exact cnvX); exact rfl)
            | ((with_reducible apply Sat.call (k2)); exact rfl; exact rfl; kernel_rfl; (exact cnvX); exact rfl)
            | ((with_reducible apply DSat.call (k2)); exact rfl; exact rfl; kernel_rfl; (exact cnvX); exact rfl)
            | ((with_reducible apply Sat.call (l2)); exact rfl; exact rfl; kernel_rfl; (exact cnvX); exact rfl)
            | ((with_reducible apply DSat.call (l2)); exact rfl; exact rfl; kernel_rfl; (exact cnvX); exact rfl)
            | ((with_reducible apply DSat.callM (l3)); exact rfl; exact rfl; (first | exact rfl | assumption | (decide +kernel)); exact rfl; kernel_rfl; (exact cnvX); exact rfl)
            | ((with_reducible apply Sat.callR (r3)); exact rfl; exact rfl; exact rfl; kernel_rfl; (exact cnvX); exact rfl)
            | ((with_reducible apply DSat.callR (r3)); exact rfl; exact rfl; exact rfl; kernel_rfl; (exact cnvX); exact rfl)
            | ((with_reducible apply Sat.callR (r5)); exact rfl; exact rfl; exact rfl; kernel_rfl; (exact cnvX); exact rfl)
            | ((with_reducible apply DSat.callR (r5)); exact rfl; exact rfl; exact rfl; kernel_rfl; (exact cnvX); exact rfl)
            | ((with_reducible apply Sat.callG1 (r2)); exact rfl; exact rfl; exact rfl; exact rfl; kernel_rfl; (intro hG; (exact cnvX)); exact rfl)
            | ((with_reducible apply DSat.callG1 (r2)); exact rfl; exact rfl; exact rfl; exact rfl; kernel_rfl; (intro hG; (exact cnvX)); exact rfl)
            | ((with_reducible apply Sat.goffM (.bool true)); exact rfl; (first | (decide +kernel) | assumption); exact rfl)
            | ((with_reducible apply DSat.goffM (.bool true)); exact rfl; (first | (decide +kernel) | assumption); exact rfl) | fail)
        all_goals (refine Sat.fin (Sat.end1 rfl rfl rfl True.intro (.refl _ purX) (by first | exact .inl rfl | exact .inr rfl) (fun _ h => h)) ?_; (first | exact rfl | exact congrArg SV.bool (by decide +kernel)))
      | false =>
        have l1 := p24f _ h2
        have l2 := p28f _ h2
        repeat' (first
            | ((with_reducible apply Sat.run (X := X64)); exact rfl; (first | exact True.intro | (exact phi) | skip))
            | ((with_reducible apply Sat.drawn); kernel_rfl)
            | ((with_reducible apply DSat.run (X := X64)); exact rfl; (first | exact True.intro | (exact phi) | skip))
            | ((with_reducible apply DSat.fin); kernel_rfl)
            | (with_reducible apply Sat.unroll 40)
            | (with_reducible apply Sat.again)
            | ((with_reducible apply Sat.cond_t); exact rfl)
            | ((with_reducible apply Sat.cond_f); exact rfl)
            | ((with_reducible apply Sat.cond_pt); exact rfl; (try dsimp only [V.EV.sub, V.EV.len]); first | assumption | omega)
            | ((with_reducible apply Sat.cond_pf); exact rfl; (try dsimp only [V.EV.sub, V.EV.len]); first | assumption | omega)
            | ((with_reducible apply Sat.cond_p); exact rfl; all_goals intro h)
            | ((with_reducible apply Sat.cond); exact rfl; all_goals intro h)
            | ((with_reducible apply Sat.gon); exact rfl; first | exact rfl | (decide +kernel))
            | ((with_reducible apply Sat.call (k1)); exact rfl; exact rfl; kernel_rfl; (exact cnvX); exact rfl)
            | ((with_reducible apply DSat.call (k1)); exact rfl; exact rfl; kernel_rfl; (exact cnvX); exact rfl)
            | ((with_reducible apply Sat.call (l1)); exact rfl; exact rfl; kernel_rfl; (exact cnvX); exact rfl)
            | ((with_reducible apply DSat.call (l1)); exact rfl; exact rfl; kernel_rfl; (exact cnvX); exact rfl)
            | ((with_reducible apply Sat.call (k2)); exact rfl; exact rfl; kernel_rfl; (exact cnvX); exact rfl)
            | ((with_reducible apply DSat.call (k2)); exact rfl; exact rfl; kernel_rfl; (exact cnvX); exact rfl)
            | ((with_reducible apply Sat.call (l2)); exact rfl; exact rfl; kernel_rfl; (exact cnvX); exact rfl)
            | ((with_reducible apply DSat.call (l2)); exact rfl; exact rfl; kernel_rfl; (exact cnvX); exact rfl)
            | ((with_reducible apply Sat.callR (r3)); exact rfl; exact rfl; exact rfl; kernel_rfl; (exact cnvX); exact rfl)
            | ((with_reducible apply DSat.callR (r3)); exact rfl; exact rfl; exact rfl; kernel_rfl; (exact cnvX); exact rfl)
            | ((with_reducible apply Sat.goffM (.bool true)); exact rfl; (first | (decide +kernel) | assumption); exact rfl)
            | ((with_reducible apply DSat.goffM (.bool true)); exact rfl; (first | (decide +kernel) | assumption); exact rfl) | fail)
        all_goals (refine Sat.fin (Sat.end1 rfl rfl rfl True.intro (.refl _ purX) (by first | exact .inl rfl | exact .inr rfl) (fun _ h => h)) ?_; (first | exact rfl | exact congrArg SV.bool (by decide +kernel)))
end Go.Proofs.YtegbdcadlmefgaaDoor
end
section
namespace Go.Proofs.YtegbdcadlmefgaaDoor
open Go.RowKit V
--PURE: (intro _ _; simp [pureL, pureS, pureE]; done)
set_option maxRecDepth 100000
set_option maxHeartbeats 4000000
set_option linter.unusedSimpArgs false
theorem endP_of (b : List UInt8) (h : okP b = true) (more : List UInt8) : endP (b ++ more) = ⟨more, false⟩ := by
  obtain ⟨h1, h2⟩ := okP_inv h
  have h3 := (parse_enc (parseP b) h2 (parseP_wf b) more).2
  rw [← h1] at h3
  exact h3
theorem endQ_of (b : List UInt8) (h : okQ b = true) (more : List UInt8) : endQ (b ++ more) = ⟨more, false⟩ := by
  obtain ⟨h1, h2⟩ := okQ_inv h
  have h3 := (parseQ_enc (parseQ b) h2 (parseQ_wf b) more).2.1
  rw [← h1] at h3
  exact h3
theorem okP_more (b more : List UInt8) (h : okP b = true) (hm : more ≠ []) : okP (b ++ more) = false := by
  cases hb : okP (b ++ more) with
  | false => rfl
  | true =>
    have h1 := endP_of b h more
    have h2 := endP_of (b ++ more) hb []
    rw [List.append_nil, h1] at h2
    exact absurd (congrArg RdS.l h2) hm
theorem okQ_more (b more : List UInt8) (h : okQ b = true) (hm : more ≠ []) : okQ (b ++ more) = false := by
  cases hb : okQ (b ++ more) with
  | false => rfl
  | true =>
    have h1 := endQ_of b h more
    have h2 := endQ_of (b ++ more) hb []
    rw [List.append_nil, h1] at h2
    exact absurd (congrArg RdS.l h2) hm
theorem okP_take (b : List UInt8) (h : okP b = true) (i : Nat) (hi : i < b.length) : okP (b.take i) = false := by
  cases hb : okP (b.take i) with
  | false => rfl
  | true =>
    have h1 := okP_more (b.take i) (b.drop i) hb (fun e => by have := congrArg List.length e; simp at this; omega)
    rw [List.take_append_drop, h] at h1
    cases h1
theorem okQ_take (b : List UInt8) (h : okQ b = true) (i : Nat) (hi : i < b.length) : okQ (b.take i) = false := by
  cases hb : okQ (b.take i) with
  | false => rfl
  | true =>
    have h1 := okQ_more (b.take i) (b.drop i) hb (fun e => by have := congrArg List.length e; simp at this; omega)
    rw [List.take_append_drop, h] at h1
    cases h1
theorem partsN_step (l : List PartL) (i : Nat) (hi : i < l.length) : partsN (l.take (i + 1)) = partsN (l.take i) + (33 + (l.getD i part0).name.length) := by
  unfold partsN
  rw [List.take_add_one, List.map_append, List.sum_append, List.getD_eq_getElem?_getD, List.getElem?_eq_getElem hi]
  simp
theorem rolesN_step (l : List RoleL) (i : Nat) (hi : i < l.length) : rolesN (l.take (i + 1)) = rolesN (l.take i) + (3 + (l.getD i role0).name.length + (l.getD i role0).keys.length) := by
  unfold rolesN
  rw [List.take_add_one, List.map_append, List.sum_append, List.getD_eq_getElem?_getD, List.getElem?_eq_getElem hi]
  simp
theorem partsN_le (l : List PartL) (i : Nat) : partsN (l.take i) ≤ partsN l := by
  unfold partsN
  conv => rhs; rw [← List.take_append_drop i l, List.map_append, List.sum_append]
  omega
theorem rolesN_le (l : List RoleL) (i : Nat) : rolesN (l.take i) ≤ rolesN l := by
  unfold rolesN
  conv => rhs; rw [← List.take_append_drop i l, List.map_append, List.sum_append]
  omega
attribute [local irreducible] V.Sat V.DSat parseP okP bytesR parseQ okQ bytesQ
theorem lengths_law (x : RawL) (y : RawQ) (more : List UInt8) : Fun Tryd.prog [] 8 [x.v, y.v, .ro (.u8 more)] (.bool true) := by
  refine Fun.mkF 8 Tryd.func8 rfl Tryd.ntmps8 rfl rfl fun hf T w0 => ?_
  have g1 := u16_iff hf.1.1
  have g2 := u16_iff hf.2.1.1
  have m1 := made_walk x (by omega)
  have m2 := madeRoot_walk y
  have hv := madeR_valid x
  have hw := madeR_wf x
  have hv2 := madeQ_valid y (by omega)
  have hw2 := madeQ_wf y
  generalize madeR x = r at *
  generalize madeQ y = q at *
  have b1 := bytes_spec r hv
  have c1 := rootBytes_spec q hv2
  have o1 := (okP_of r hv hw).1
  have o2 := (okQ_of q hv2 hw2).1
  have n1 := bytesR_len r hw
  have n2 := bytesQ_len q hw2
  have l1 := bytesR_le r hv hw
  have l2 := bytesQ_le q hv2 hw2
  generalize bytesR r = d at *
  generalize bytesQ q = e at *
  have hp := partsN_le r.parts
  have hr := rolesN_le q.roles
  repeat' (first
      | ((with_reducible apply Sat.run (X := X64)); exact rfl; (first | exact True.intro | (exact phi) | skip))
      | ((with_reducible apply Sat.drawn); kernel_rfl)
      | ((with_reducible apply DSat.run (X := X64)); exact rfl; (first | exact True.intro | (exact phi) | skip))
      | ((with_reducible apply DSat.fin); kernel_rfl)
      | ((with_reducible apply Sat.gon); exact rfl; first | exact rfl | (decide +kernel))
      | ((with_reducible apply Sat.call0 (sanity_law)); exact rfl; exact rfl; kernel_rfl; exact rfl)
      | ((with_reducible apply DSat.call0 (sanity_law)); exact rfl; exact rfl; kernel_rfl; exact rfl)
      | ((with_reducible apply DSat.callM0 (sanity_law)); exact rfl; exact rfl; (first | exact rfl | assumption | (decide +kernel)); exact rfl; kernel_rfl; exact rfl) | fail)
  with_reducible apply Sat.cond_p
  · exact rfl
  · intro h
    repeat' (first
        | ((with_reducible apply Sat.run (X := X64)); exact rfl; (first | exact True.intro | (exact phi) | skip))
        | ((with_reducible apply Sat.drawn); kernel_rfl)
        | ((with_reducible apply DSat.run (X := X64)); exact rfl; (first | exact True.intro | (exact phi) | skip))
        | ((with_reducible apply DSat.fin); kernel_rfl) | fail)
    (refine Sat.fin (Sat.end1 rfl rfl rfl True.intro (.refl _ purX) (by first | exact .inl rfl | exact .inr rfl) (fun _ h => h)) ?_; (first | exact rfl | exact congrArg SV.bool (by decide +kernel)))
  have k1 : r.parts.length ≤ 8 := (valid_nums hv).2.2.2.2.2.2.1
  have k2 : q.roles.length ≤ 8 := (root_nums hv2).2.2.2.1.2
  intro hm
  have hm2 : ¬ 40 < (more.length : Int) := hm
  repeat' (first
      | ((with_reducible apply Sat.run (X := X64)); exact rfl; (first | exact True.intro | (exact phi) | skip))
      | ((with_reducible apply Sat.drawn); kernel_rfl)
      | ((with_reducible apply DSat.run (X := X64)); exact rfl; (first | exact True.intro | (exact phi) | skip))
      | ((with_reducible apply DSat.fin); kernel_rfl)
      | ((with_reducible apply Sat.cond_t); exact rfl)
      | ((with_reducible apply Sat.cond_f); exact rfl)
      | ((with_reducible apply Sat.cond_pt); exact rfl; (try dsimp only [V.EV.sub, V.EV.len]); first | assumption | omega)
      | ((with_reducible apply Sat.cond_pf); exact rfl; (try dsimp only [V.EV.sub, V.EV.len]); first | assumption | omega)
      | ((with_reducible apply Sat.cond_p); exact rfl; all_goals intro h)
      | ((with_reducible apply Sat.cond); exact rfl; all_goals intro h)
      | ((with_reducible apply Sat.call (m1)); exact rfl; exact rfl; kernel_rfl; (exact cnvX); exact rfl)
      | ((with_reducible apply DSat.call (m1)); exact rfl; exact rfl; kernel_rfl; (exact cnvX); exact rfl)
      | ((with_reducible apply Sat.call (m2)); exact rfl; exact rfl; kernel_rfl; (exact cnvX); exact rfl)
      | ((with_reducible apply DSat.call (m2)); exact rfl; exact rfl; kernel_rfl; (exact cnvX); exact rfl)
      | ((with_reducible apply Sat.call (b1)); exact rfl; exact rfl; kernel_rfl; (exact cnvX); exact rfl)
      | ((with_reducible apply DSat.call (b1)); exact rfl; exact rfl; kernel_rfl; (exact cnvX); exact rfl)
      | ((with_reducible apply Sat.call (c1)); exact rfl; exact rfl; kernel_rfl; (exact cnvX); exact rfl)
      | ((with_reducible apply DSat.call (c1)); exact rfl; exact rfl; kernel_rfl; (exact cnvX); exact rfl) | fail)
  apply Sat.loop (α := Nat) (fun x => x ≤ r.parts.length) (fun x => r.parts.length - x) 0 (fun x => [(12, .int .i64 (((81 + 2 * r.gone.length + partsN (r.parts.take x) : Nat) : Nat) : Int)), (14, .int .i64 (x : Int))]) (fun x => []) [] [] 0
  · intro x; exact rfl
  · intro x; exact rfl
  · exact rfl
  · exact rfl
  · (repeat' (first | exact AllP.nil | with_reducible refine AllP.cons ?_ ?_)) <;> first | with_reducible exact rfl | (simp only [EV.len, List.take_zero]; show _ = (((81 + 2 * r.gone.length + 0 : Nat) : Int)); omega) | (simp only [EV.len, List.take_zero]; show _ = (((11 + 32 * q.keys.length + 0 : Nat) : Int)); omega) | omega | exact rfl | exact trivial | exact purX | exact ⟨rfl, rfl, rfl, rfl⟩
  · exact Nat.zero_le _
  intro i hi
  have hp1 := hp i
  by_cases hi2 : i < r.parts.length
  · have hs : partsN (r.parts.take (i + 1)) = partsN (r.parts.take i) + (33 + (r.parts.getD ((i : Int).toNat) part0).name.length) := partsN_step r.parts i hi2
    have hq := hp (i + 1)
    have hc : (i : Int) < ((partsE r.parts).len : Int) := by show (i : Int) < (r.parts.length : Int); omega
    repeat' (first
        | ((with_reducible apply Sat.run (X := X64)); exact rfl; (first | exact True.intro | (exact phi) | skip))
        | ((with_reducible apply Sat.drawn); kernel_rfl)
        | ((with_reducible apply DSat.run (X := X64)); exact rfl; (first | exact True.intro | (exact phi) | skip))
        | ((with_reducible apply DSat.fin); kernel_rfl)
        | ((with_reducible apply Sat.cond_t); exact rfl)
        | ((with_reducible apply Sat.cond_f); exact rfl)
        | ((with_reducible apply Sat.cond_pt); exact rfl; (try dsimp only [V.EV.sub, V.EV.len]); first | assumption | omega)
        | ((with_reducible apply Sat.cond_pf); exact rfl; (try dsimp only [V.EV.sub, V.EV.len]); first | assumption | omega)
        | ((with_reducible apply Sat.cond_p); exact rfl; all_goals intro h)
        | ((with_reducible apply Sat.cond); exact rfl; all_goals intro h) | fail)
    refine Sat.back (i + 1) [] rfl ?_ (by omega) (by omega)
    (repeat' (first | exact AllP.nil | with_reducible refine AllP.cons ?_ ?_)) <;> first | with_reducible exact rfl | exact Int.natCast_add_one _ | (rw [hs]; simp only [EV.len, Int.toNat_natCast]; omega) | exact rfl | exact trivial | exact purX | exact ⟨rfl, rfl, rfl, rfl⟩
  obtain rfl : i = r.parts.length := by omega
  rw [List.take_length, ← n1]
  repeat' (first
      | ((with_reducible apply Sat.run (X := X64)); exact rfl; (first | exact True.intro | (exact phi) | skip))
      | ((with_reducible apply Sat.drawn); kernel_rfl)
      | ((with_reducible apply DSat.run (X := X64)); exact rfl; (first | exact True.intro | (exact phi) | skip))
      | ((with_reducible apply DSat.fin); kernel_rfl) | fail)
  with_reducible apply Sat.cond_pf
  · exact rfl
  · show ¬ (r.parts.length : Int) < (r.parts.length : Int); omega
  repeat' (first
      | ((with_reducible apply Sat.run (X := X64)); exact rfl; (first | exact True.intro | (exact phi) | skip))
      | ((with_reducible apply Sat.drawn); kernel_rfl)
      | ((with_reducible apply DSat.run (X := X64)); exact rfl; (first | exact True.intro | (exact phi) | skip))
      | ((with_reducible apply DSat.fin); kernel_rfl) | fail)
  apply Sat.loop (α := Nat) (fun x => x ≤ q.roles.length) (fun x => q.roles.length - x) 0 (fun x => [(13, .int .i64 (((11 + 32 * q.keys.length + rolesN (q.roles.take x) : Nat) : Nat) : Int)), (15, .int .i64 (x : Int))]) (fun x => []) [] [] 0
  · intro x; exact rfl
  · intro x; exact rfl
  · exact rfl
  · exact rfl
  · (repeat' (first | exact AllP.nil | with_reducible refine AllP.cons ?_ ?_)) <;> first | with_reducible exact rfl | (simp only [EV.len, List.take_zero]; show _ = (((81 + 2 * r.gone.length + 0 : Nat) : Int)); omega) | (simp only [EV.len, List.take_zero]; show _ = (((11 + 32 * q.keys.length + 0 : Nat) : Int)); omega) | omega | exact rfl | exact trivial | exact purX | exact ⟨rfl, rfl, rfl, rfl⟩
  · exact Nat.zero_le _
  intro j hj
  have hr1 := hr j
  by_cases hj2 : j < q.roles.length
  · have hs : rolesN (q.roles.take (j + 1)) = rolesN (q.roles.take j) + (3 + (q.roles.getD ((j : Int).toNat) role0).name.length + (q.roles.getD ((j : Int).toNat) role0).keys.length) := rolesN_step q.roles j hj2
    have hq := hr (j + 1)
    have hc : (j : Int) < ((rolesE q.roles).len : Int) := by show (j : Int) < (q.roles.length : Int); omega
    repeat' (first
        | ((with_reducible apply Sat.run (X := X64)); exact rfl; (first | exact True.intro | (exact phi) | skip))
        | ((with_reducible apply Sat.drawn); kernel_rfl)
        | ((with_reducible apply DSat.run (X := X64)); exact rfl; (first | exact True.intro | (exact phi) | skip))
        | ((with_reducible apply DSat.fin); kernel_rfl)
        | ((with_reducible apply Sat.cond_t); exact rfl)
        | ((with_reducible apply Sat.cond_f); exact rfl)
        | ((with_reducible apply Sat.cond_pt); exact rfl; (try dsimp only [V.EV.sub, V.EV.len]); first | assumption | omega)
        | ((with_reducible apply Sat.cond_pf); exact rfl; (try dsimp only [V.EV.sub, V.EV.len]); first | assumption | omega)
        | ((with_reducible apply Sat.cond_p); exact rfl; all_goals intro h)
        | ((with_reducible apply Sat.cond); exact rfl; all_goals intro h) | fail)
    refine Sat.back (j + 1) [] rfl ?_ (by omega) (by omega)
    (repeat' (first | exact AllP.nil | with_reducible refine AllP.cons ?_ ?_)) <;> first | with_reducible exact rfl | exact Int.natCast_add_one _ | (rw [hs]; simp only [EV.len, Int.toNat_natCast]; omega) | exact rfl | exact trivial | exact purX | exact ⟨rfl, rfl, rfl, rfl⟩
  obtain rfl : j = q.roles.length := by omega
  rw [List.take_length, ← n2]
  repeat' (first
      | ((with_reducible apply Sat.run (X := X64)); exact rfl; (first | exact True.intro | (exact phi) | skip))
      | ((with_reducible apply Sat.drawn); kernel_rfl)
      | ((with_reducible apply DSat.run (X := X64)); exact rfl; (first | exact True.intro | (exact phi) | skip))
      | ((with_reducible apply DSat.fin); kernel_rfl) | fail)
  with_reducible apply Sat.cond_pf
  · exact rfl
  · show ¬ (q.roles.length : Int) < (q.roles.length : Int); omega
  repeat' (first
      | ((with_reducible apply Sat.run (X := X64)); exact rfl; (first | exact True.intro | (exact phi) | skip))
      | ((with_reducible apply Sat.drawn); kernel_rfl)
      | ((with_reducible apply DSat.run (X := X64)); exact rfl; (first | exact True.intro | (exact phi) | skip))
      | ((with_reducible apply DSat.fin); kernel_rfl) | fail)
  with_reducible apply Sat.cond
  · exact rfl
  · intro h
    exfalso
    simp [EV.len] at h
  intro h
  clear h
  repeat' (first
      | ((with_reducible apply Sat.run (X := X64)); exact rfl; (first | exact True.intro | (exact phi) | skip))
      | ((with_reducible apply Sat.drawn); kernel_rfl)
      | ((with_reducible apply DSat.run (X := X64)); exact rfl; (first | exact True.intro | (exact phi) | skip))
      | ((with_reducible apply DSat.fin); kernel_rfl) | fail)
  apply Sat.loop (α := Nat) (fun x => x ≤ d.length) (fun x => d.length - x) 0 (fun x => [(16, .int .i64 (x : Int))]) (fun x => []) [] [] 0
  · intro x; exact rfl
  · intro x; exact rfl
  · exact rfl
  · exact rfl
  · (repeat' (first | exact AllP.nil | with_reducible refine AllP.cons ?_ ?_)) <;> first | with_reducible exact rfl | (simp only [EV.len, List.take_zero]; show _ = (((81 + 2 * r.gone.length + 0 : Nat) : Int)); omega) | (simp only [EV.len, List.take_zero]; show _ = (((11 + 32 * q.keys.length + 0 : Nat) : Int)); omega) | omega | exact rfl | exact trivial | exact purX | exact ⟨rfl, rfl, rfl, rfl⟩
  · exact Nat.zero_le _
  intro i hi
  by_cases hi2 : i < d.length
  · have f1 := p23f (d.take i) (okP_take d o1 i hi2)
    have hc : (i : Int) < ((EV.u8 d).len : Int) := by show (i : Int) < (d.length : Int); omega
    repeat' (first
        | ((with_reducible apply Sat.run (X := X64)); exact rfl; (first | exact True.intro | (exact phi) | skip))
        | ((with_reducible apply Sat.drawn); kernel_rfl)
        | ((with_reducible apply DSat.run (X := X64)); exact rfl; (first | exact True.intro | (exact phi) | skip))
        | ((with_reducible apply DSat.fin); kernel_rfl)
        | ((with_reducible apply Sat.cond_t); exact rfl)
        | ((with_reducible apply Sat.cond_f); exact rfl)
        | ((with_reducible apply Sat.cond_pt); exact rfl; (try dsimp only [V.EV.sub, V.EV.len]); first | assumption | omega)
        | ((with_reducible apply Sat.cond_pf); exact rfl; (try dsimp only [V.EV.sub, V.EV.len]); first | assumption | omega)
        | ((with_reducible apply Sat.cond_p); exact rfl; all_goals intro h)
        | ((with_reducible apply Sat.cond); exact rfl; all_goals intro h)
        | ((with_reducible apply Sat.call (f1)); exact rfl; exact rfl; kernel_rfl; (exact cnvX); exact rfl)
        | ((with_reducible apply DSat.call (f1)); exact rfl; exact rfl; kernel_rfl; (exact cnvX); exact rfl) | fail)
    refine Sat.back (i + 1) [] rfl ?_ (by omega) (by omega)
    (repeat' (first | exact AllP.nil | with_reducible refine AllP.cons ?_ ?_)) <;> first | with_reducible exact rfl | exact Int.natCast_add_one _ | exact rfl | exact trivial | exact purX | exact ⟨rfl, rfl, rfl, rfl⟩
  obtain rfl : i = d.length := by omega
  repeat' (first
      | ((with_reducible apply Sat.run (X := X64)); exact rfl; (first | exact True.intro | (exact phi) | skip))
      | ((with_reducible apply Sat.drawn); kernel_rfl)
      | ((with_reducible apply DSat.run (X := X64)); exact rfl; (first | exact True.intro | (exact phi) | skip))
      | ((with_reducible apply DSat.fin); kernel_rfl) | fail)
  with_reducible apply Sat.cond_pf
  · exact rfl
  · show ¬ (d.length : Int) < (d.length : Int); omega
  repeat' (first
      | ((with_reducible apply Sat.run (X := X64)); exact rfl; (first | exact True.intro | (exact phi) | skip))
      | ((with_reducible apply Sat.drawn); kernel_rfl)
      | ((with_reducible apply DSat.run (X := X64)); exact rfl; (first | exact True.intro | (exact phi) | skip))
      | ((with_reducible apply DSat.fin); kernel_rfl) | fail)
  apply Sat.loop (α := Nat) (fun x => x ≤ e.length) (fun x => e.length - x) 0 (fun x => [(19, .int .i64 (x : Int))]) (fun x => []) [] [] 0
  · intro x; exact rfl
  · intro x; exact rfl
  · exact rfl
  · exact rfl
  · (repeat' (first | exact AllP.nil | with_reducible refine AllP.cons ?_ ?_)) <;> first | with_reducible exact rfl | (simp only [EV.len, List.take_zero]; show _ = (((81 + 2 * r.gone.length + 0 : Nat) : Int)); omega) | (simp only [EV.len, List.take_zero]; show _ = (((11 + 32 * q.keys.length + 0 : Nat) : Int)); omega) | omega | exact rfl | exact trivial | exact purX | exact ⟨rfl, rfl, rfl, rfl⟩
  · exact Nat.zero_le _
  intro i hi
  by_cases hi2 : i < e.length
  · have f1 := p24f (e.take i) (okQ_take e o2 i hi2)
    have hc : (i : Int) < ((EV.u8 e).len : Int) := by show (i : Int) < (e.length : Int); omega
    repeat' (first
        | ((with_reducible apply Sat.run (X := X64)); exact rfl; (first | exact True.intro | (exact phi) | skip))
        | ((with_reducible apply Sat.drawn); kernel_rfl)
        | ((with_reducible apply DSat.run (X := X64)); exact rfl; (first | exact True.intro | (exact phi) | skip))
        | ((with_reducible apply DSat.fin); kernel_rfl)
        | ((with_reducible apply Sat.cond_t); exact rfl)
        | ((with_reducible apply Sat.cond_f); exact rfl)
        | ((with_reducible apply Sat.cond_pt); exact rfl; (try dsimp only [V.EV.sub, V.EV.len]); first | assumption | omega)
        | ((with_reducible apply Sat.cond_pf); exact rfl; (try dsimp only [V.EV.sub, V.EV.len]); first | assumption | omega)
        | ((with_reducible apply Sat.cond_p); exact rfl; all_goals intro h)
        | ((with_reducible apply Sat.cond); exact rfl; all_goals intro h)
        | ((with_reducible apply Sat.call (f1)); exact rfl; exact rfl; kernel_rfl; (exact cnvX); exact rfl)
        | ((with_reducible apply DSat.call (f1)); exact rfl; exact rfl; kernel_rfl; (exact cnvX); exact rfl) | fail)
    refine Sat.back (i + 1) [] rfl ?_ (by omega) (by omega)
    (repeat' (first | exact AllP.nil | with_reducible refine AllP.cons ?_ ?_)) <;> first | with_reducible exact rfl | exact Int.natCast_add_one _ | exact rfl | exact trivial | exact purX | exact ⟨rfl, rfl, rfl, rfl⟩
  obtain rfl : i = e.length := by omega
  repeat' (first
      | ((with_reducible apply Sat.run (X := X64)); exact rfl; (first | exact True.intro | (exact phi) | skip))
      | ((with_reducible apply Sat.drawn); kernel_rfl)
      | ((with_reducible apply DSat.run (X := X64)); exact rfl; (first | exact True.intro | (exact phi) | skip))
      | ((with_reducible apply DSat.fin); kernel_rfl) | fail)
  with_reducible apply Sat.cond_pf
  · exact rfl
  · show ¬ (e.length : Int) < (e.length : Int); omega
  repeat' (first
      | ((with_reducible apply Sat.run (X := X64)); exact rfl; (first | exact True.intro | (exact phi) | skip))
      | ((with_reducible apply Sat.drawn); kernel_rfl)
      | ((with_reducible apply DSat.run (X := X64)); exact rfl; (first | exact True.intro | (exact phi) | skip))
      | ((with_reducible apply DSat.fin); kernel_rfl) | fail)
  have hl1 : 0 + (EV.u8 d).len + (EV.u8 more).len = (EV.u8 ([] ++ d ++ more)).len := by simp only [EV.len, List.length_append, List.length_nil]
  have hl2 : 0 + (EV.u8 e).len + (EV.u8 more).len = (EV.u8 ([] ++ e ++ more)).len := by simp only [EV.len, List.length_append, List.length_nil]
  refine Sat.tidy rfl ?_
  refine Sat.freezeR true 6 rfl ?_ ?_
  · (repeat' (first | exact AllP.nil | with_reducible refine AllP.cons ?_ ?_)) <;> first | exact rfl | exact trivial | exact .inl ⟨rfl, hl1, rfl⟩ | exact .inl ⟨rfl, hl2, rfl⟩ | exact .inl ⟨rfl, rfl, rfl⟩ | (intro _ _; simp [pureL, pureS, pureE]; done) | exact ⟨rfl, rfl, rfl, rfl⟩
  have en : ([] ++ d ++ more : List UInt8) = d ++ more := rfl
  have en2 : ([] ++ e ++ more : List UInt8) = e ++ more := rfl
  rw [en]
  cases hmo : decide ((more.length : Int) = 0) with
  | true =>
    have h0 := of_decide_eq_true hmo
    obtain rfl : more = [] := List.eq_nil_of_length_eq_zero (by omega)
    have f1 := p23t (d ++ []) (by rw [List.append_nil]; exact o1)
    have f2 := p24t (e ++ []) (by rw [List.append_nil]; exact o2)
    repeat' (first
        | ((with_reducible apply Sat.run (X := X64)); exact rfl; (first | exact True.intro | (exact phi) | skip))
        | ((with_reducible apply Sat.drawn); kernel_rfl)
        | ((with_reducible apply DSat.run (X := X64)); exact rfl; (first | exact True.intro | (exact phi) | skip))
        | ((with_reducible apply DSat.fin); kernel_rfl)
        | ((with_reducible apply Sat.cond_t); exact rfl)
        | ((with_reducible apply Sat.cond_f); exact rfl)
        | ((with_reducible apply Sat.cond_pt); exact rfl; (try dsimp only [V.EV.sub, V.EV.len]); first | assumption | omega)
        | ((with_reducible apply Sat.cond_pf); exact rfl; (try dsimp only [V.EV.sub, V.EV.len]); first | assumption | omega)
        | ((with_reducible apply Sat.cond_p); exact rfl; all_goals intro h)
        | ((with_reducible apply Sat.cond); exact rfl; all_goals intro h)
        | ((with_reducible apply Sat.gon); exact rfl; first | exact rfl | (decide +kernel))
        | ((with_reducible apply Sat.call (f1)); exact rfl; exact rfl; kernel_rfl; (exact cnvX); exact rfl)
        | ((with_reducible apply DSat.call (f1)); exact rfl; exact rfl; kernel_rfl; (exact cnvX); exact rfl) | fail)
    refine Sat.tidy rfl ?_
    refine Sat.freezeR true 10 rfl ?_ ?_
    · (repeat' (first | exact AllP.nil | with_reducible refine AllP.cons ?_ ?_)) <;> first | exact rfl | exact trivial | exact .inl ⟨rfl, hl1, rfl⟩ | exact .inl ⟨rfl, hl2, rfl⟩ | exact .inl ⟨rfl, rfl, rfl⟩ | (intro _ _; simp [pureL, pureS, pureE]; done) | exact ⟨rfl, rfl, rfl, rfl⟩
    rw [en2]
    repeat' (first
        | ((with_reducible apply Sat.run (X := X64)); exact rfl; (first | exact True.intro | (exact phi) | skip))
        | ((with_reducible apply Sat.drawn); kernel_rfl)
        | ((with_reducible apply DSat.run (X := X64)); exact rfl; (first | exact True.intro | (exact phi) | skip))
        | ((with_reducible apply DSat.fin); kernel_rfl)
        | ((with_reducible apply Sat.cond_t); exact rfl)
        | ((with_reducible apply Sat.cond_f); exact rfl)
        | ((with_reducible apply Sat.cond_pt); exact rfl; (try dsimp only [V.EV.sub, V.EV.len]); first | assumption | omega)
        | ((with_reducible apply Sat.cond_pf); exact rfl; (try dsimp only [V.EV.sub, V.EV.len]); first | assumption | omega)
        | ((with_reducible apply Sat.cond_p); exact rfl; all_goals intro h)
        | ((with_reducible apply Sat.cond); exact rfl; all_goals intro h)
        | ((with_reducible apply Sat.gon); exact rfl; first | exact rfl | (decide +kernel))
        | ((with_reducible apply Sat.call (f2)); exact rfl; exact rfl; kernel_rfl; (exact cnvX); exact rfl)
        | ((with_reducible apply DSat.call (f2)); exact rfl; exact rfl; kernel_rfl; (exact cnvX); exact rfl) | fail)

    all_goals (refine Sat.fin (Sat.end1 rfl rfl rfl True.intro (.refl _ purX) (by first | exact .inl rfl | exact .inr rfl) (fun _ h => h)) ?_; (first | exact rfl | exact congrArg SV.bool (by decide +kernel)))
  | false =>
    have h0 := of_decide_eq_false hmo
    have hne : more ≠ [] := fun h => h0 (by rw [h]; rfl)
    have f1 := p23f (d ++ more) (okP_more d more o1 hne)
    have f2 := p24f (e ++ more) (okQ_more e more o2 hne)
    repeat' (first
        | ((with_reducible apply Sat.run (X := X64)); exact rfl; (first | exact True.intro | (exact phi) | skip))
        | ((with_reducible apply Sat.drawn); kernel_rfl)
        | ((with_reducible apply DSat.run (X := X64)); exact rfl; (first | exact True.intro | (exact phi) | skip))
        | ((with_reducible apply DSat.fin); kernel_rfl)
        | ((with_reducible apply Sat.cond_t); exact rfl)
        | ((with_reducible apply Sat.cond_f); exact rfl)
        | ((with_reducible apply Sat.cond_pt); exact rfl; (try dsimp only [V.EV.sub, V.EV.len]); first | assumption | omega)
        | ((with_reducible apply Sat.cond_pf); exact rfl; (try dsimp only [V.EV.sub, V.EV.len]); first | assumption | omega)
        | ((with_reducible apply Sat.cond_p); exact rfl; all_goals intro h)
        | ((with_reducible apply Sat.cond); exact rfl; all_goals intro h)
        | ((with_reducible apply Sat.gon); exact rfl; first | exact rfl | (decide +kernel))
        | ((with_reducible apply Sat.call (f1)); exact rfl; exact rfl; kernel_rfl; (exact cnvX); exact rfl)
        | ((with_reducible apply DSat.call (f1)); exact rfl; exact rfl; kernel_rfl; (exact cnvX); exact rfl) | fail)
    refine Sat.tidy rfl ?_
    refine Sat.freezeR true 10 rfl ?_ ?_
    · (repeat' (first | exact AllP.nil | with_reducible refine AllP.cons ?_ ?_)) <;> first | exact rfl | exact trivial | exact .inl ⟨rfl, hl1, rfl⟩ | exact .inl ⟨rfl, hl2, rfl⟩ | exact .inl ⟨rfl, rfl, rfl⟩ | (intro _ _; simp [pureL, pureS, pureE]; done) | exact ⟨rfl, rfl, rfl, rfl⟩
    rw [en2]
    repeat' (first
        | ((with_reducible apply Sat.run (X := X64)); exact rfl; (first | exact True.intro | (exact phi) | skip))
        | ((with_reducible apply Sat.drawn); kernel_rfl)
        | ((with_reducible apply DSat.run (X := X64)); exact rfl; (first | exact True.intro | (exact phi) | skip))
        | ((with_reducible apply DSat.fin); kernel_rfl)
        | ((with_reducible apply Sat.cond_t); exact rfl)
        | ((with_reducible apply Sat.cond_f); exact rfl)
        | ((with_reducible apply Sat.cond_pt); exact rfl; (try dsimp only [V.EV.sub, V.EV.len]); first | assumption | omega)
        | ((with_reducible apply Sat.cond_pf); exact rfl; (try dsimp only [V.EV.sub, V.EV.len]); first | assumption | omega)
        | ((with_reducible apply Sat.cond_p); exact rfl; all_goals intro h)
        | ((with_reducible apply Sat.cond); exact rfl; all_goals intro h)
        | ((with_reducible apply Sat.gon); exact rfl; first | exact rfl | (decide +kernel))
        | ((with_reducible apply Sat.call (f2)); exact rfl; exact rfl; kernel_rfl; (exact cnvX); exact rfl)
        | ((with_reducible apply DSat.call (f2)); exact rfl; exact rfl; kernel_rfl; (exact cnvX); exact rfl) | fail)
    all_goals (refine Sat.fin (Sat.end1 rfl rfl rfl True.intro (.refl _ purX) (by first | exact .inl rfl | exact .inr rfl) (fun _ h => h)) ?_; (refine congrArg SV.bool ?_; simp [EV.len, hne]))
end Go.Proofs.YtegbdcadlmefgaaDoor
end
section
namespace Go.Proofs.YtegbdcadlmefgaaDoor
open Go.RowKit Go.ChangeShapes Go.WideShapes V
set_option maxRecDepth 100000
set_option maxHeartbeats 8000000
theorem metaLengths_step (os : Os) (started : os.Started) (H : Type) (enc : TypeId × Value → H) (F : Stop.Interp) :
    ReturnsInHanded {} Tryd.checked os 8 .any ((OpenSpec.ofChange Rows.metaLengthsSpec).preRow enc Tryd.prog Tryd.f8 Rows.metaLengthsRow.domain false Rows.metaLengthsRow.laid) (((OpenSpec.ofChange Rows.metaLengthsSpec).at F).post enc Tryd.prog Tryd.f8 false true false false) := by
  refine law_step (C := Tryd.checked) (fn := Tryd.f8) (s := OpenSpec.ofChange Rows.metaLengthsSpec) (F := F) (tb := 4) [] own started (by kernel_rfl) Tryd.func8 laidOut (by kernel_rfl) (by kernel_rfl) (by kernel_rfl) Tryd.underlying4 rfl ?_
    (row_witness (World.doorLaid Tryd.prog 300 os) #[.agg #[.int .u16 0, .int .u16 0, .int .u32 0, .int .u32 0, .int .u8 0, .int .u8 0, .slice none 0 0, .slice none 0 0], .agg #[.int .u16 0, .int .u32 0, .slice none 0 0, .slice none 0 0], .slice none 0 0] rfl (by kernel_rfl) (by kernel_rfl) (by kernel_rfl) (by kernel_rfl) (by kernel_rfl) (door_met os _)) errs_glob ?_
  · intro ds hl
    obtain ⟨d1, d2, d3, rfl⟩ := list_len3 hl
    rfl
  · intro W vs ds hl ht hk
    obtain ⟨d1, d2, d3, rfl⟩ := list_len3 hl
    refine Fun.facts fun hf => ?_
    show Fun _ _ _ [.agg (rawSV d1), .agg (rawQSV d2), .ro (.u8 ((eOf d3).map u8Of))] _
    rw [rawD_l d1 hf.1, rawQD_l d2 hf.2.1]
    exact lengths_law (rawD d1) (rawQD d2) _
theorem metaLengths_said : Rows.MetaLengthsSaid :=
  OpenClaim.holds_of_cond 8 Tryd.f8 rfl rfl rfl rfl rfl rfl rfl ⟨rfl, rfl, rfl, rfl, rfl⟩ rfl rfl rfl rfl rfl (by kernel_rfl) Tryd.func8 (by kernel_rfl)
    (of_decide_eq_true (by kernel_rfl)) (by unfold Func.isWrapper; first | (rw [if_pos (by decide +kernel)]; kernel_rfl) | (rw [if_neg (by decide +kernel)]; exact ⟨rfl, rfl⟩))
    (fun os started H enc _ F => by rw [OpenClaim.pre_eq_preRow]; exact metaLengths_step os started H enc F)
theorem metaLengths_plain (f : FuncId) (fn : Func) (hf : Tryd.pinned.checked.prog.funcNamed "inlay/inlaylaw26.MetaLengths" = some f) (hfn : Tryd.pinned.checked.prog.funcs[f]? = some fn) :
    false = Tryd.pinned.checked.prog.looks [] ∧ ∀ (j : Nat) t, fn.params[j]? = some t → Tryd.pinned.checked.prog.wantsStandIn t = false := by
  obtain rfl : f = 8 := Option.some.inj ((show Tryd.prog.funcNamed "inlay/inlaylaw26.MetaLengths" = some 8 by kernel_rfl).symm.trans hf) |>.symm
  obtain rfl : fn = Tryd.f8 := (Option.some.inj (Tryd.func8.symm.trans hfn)).symm
  refine ⟨by kernel_rfl, fun j t ht => ?_⟩
  have hall : Tryd.f8.params.all (fun t => !(Tryd.prog.wantsStandIn t)) = true := by kernel_rfl
  have := (Array.all_eq_true_iff_forall_mem.1 hall) t (Array.mem_of_getElem? ht)
  have h2 : Tryd.prog.wantsStandIn t = false := by simpa using this
  exact h2
/-- The card. -/
theorem metaLengths_card : Rows.MetaLengthsCardSaid :=
  Claim7.holds_tied_plain_at .later [] _ _ _ _ metaLengths_said (fun _ h => by cases h) (by kernel_rfl) (fun _ h => by cases h) metaLengths_row_tie rfl ⟨rfl, rfl⟩ (by kernel_rfl) rfl metaLengths_plain (by kernel_rfl)
end Go.Proofs.YtegbdcadlmefgaaDoor
end
