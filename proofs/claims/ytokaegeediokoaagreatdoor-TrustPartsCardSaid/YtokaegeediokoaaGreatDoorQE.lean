/-
  Joined texts: TuC: Trust: slices of ints grown, sorted, compacted: this program's functions.
  TuD: Trust: enough; the conditions of Accept.
  TuE: Trust: Accept.
  TA: Trust: Rotate.
  TB: Trust: the law's accept and plain; the reference's roots and releases.
  TC: Trust: the reference's releases and roots.
  TD: Trust: the reference's Has, Role, Signs, Count, Enough, Allows, Members.
  TqC: Meta: equal releases, equal roots.
  TE: Trust: the reference's Union (of lists of at most one number), Ints, Same, SameAccepted, Accept.
  TP: Trust, plain: what was withdrawn is a strictly increasing list of the numbers of both.
  TF: Trust: the reference's Ints, Same, SameAccepted, Accept.
  NA: Meta: the reader of the reference.
  NB: Meta: Parse of the reference.
  TqB: Meta: what is written is read by the reference: releases.
  TG: Trust: the reference's Accept.
  TH: Trust, plain: signatures of one's own are accepted; how many keys sign; the releases and roots of the laws.
  TI: Trust: sanity.
  TL: Meta: how long the bytes of releases and roots are (plain).
  TJ: Trust: Threshold.
  Bg: Ranges over strings: the iterator is a block of one's own.
  PA: Image: names, of the reference and of the program.
  PB: Image: names of the program (a range over the runes).
  PC: Image: sections; searches in lists of sections; Find of the program and of the reference.
  PD: Image: Valid of the reference.
  PE: Image: Valid of the program.
  PF: Image: Made of the reference.
  XD: Trust: Parts of the program (closures in slices.ContainsFunc).
  XE: Trust: Parts of the reference.
  XF: Trust, plain: sections, the parts that name them, one byte changed.
  XG: Trust: TrustParts.
  XH: Trust: what the arguments of Parts read as.
  Z7: The law inlaylaw27.TrustParts returns true for every input, and each argument reads behind the call as it read before: an image whose sections have the hashes of the parts is accepted; with one byte of a named section changed it is not, unless two different lists of bytes have the same hash.
  Conditions: the package variables that the row lists hold, when the call begins, what the program's text lays there (the card ties them); no other narrowing.
-/
import Derived.Test.YtokaegeediokoaaGreatDoorQD
import Derived.Shelf.Spec.SlicesGrow
import Derived.Shelf.Slices.In.SortNone
import Derived.Lib.RowBridge
import Derived.Test.YtokaegeediokoaaGreatDoorQC
import Derived.Lib.TrimU
import Derived.SevenTiedAt
section
namespace Go.Proofs.YtokaegeediokoaaGreatDoor
open Go.RowKit V Go.Sort
set_option maxRecDepth 100000
set_option maxHeartbeats 8000000
set_option linter.unusedSimpArgs false
def grow_ren : Go.Shelf.Ren := ⟨fun | 4 => 165 | n => n, fun | 22 => 30 | 25 => 3 | n => n, fun | n => n⟩
theorem grow_lays : Go.Proofs.Lays8.n4 Tryz.prog grow_ren := {
  mixed := by kernel_rfl
  f4 := ⟨"slices.Grow[[]int,int]", by decide, Tryz.func165.trans (congrArg some (by kernel_rfl))⟩
  t0 := Tryz.underlying0
  a0 := Tryz.isAgg0
  z0 := Tryz.sizeOf0
  v0 := Tryz.zeroValue0
  t3 := Tryz.underlying3
  a3 := Tryz.isAgg3
  z3 := Tryz.sizeOf3
  v3 := Tryz.zeroValue3
  t4 := Tryz.underlying4
  a4 := Tryz.isAgg4
  z4 := Tryz.sizeOf4
  v4 := Tryz.zeroValue4
  t9 := Tryz.underlying9
  a9 := Tryz.isAgg9
  z9 := Tryz.sizeOf9
  v9 := Tryz.zeroValue9
  t20 := Tryz.underlying20
  a20 := Tryz.isAgg20
  z20 := Tryz.sizeOf20
  v20 := Tryz.zeroValue20
  t22 := Tryz.underlying30
  a22 := Tryz.isAgg30
  z22 := Tryz.sizeOf30
  v22 := Tryz.zeroValue30 }
theorem int_info : ∃ i0 : TypeInfo, Tryz.prog.info? 3 = some i0 ∧ i0.zero = some (.int .i64 0) ∧ i0.size = 1 ∧ i0.bytes = 8 := ⟨_, rfl, by kernel_rfl, by kernel_rfl, by kernel_rfl⟩
theorem drew_alloc (w : World) (o : Obj) : (w.drew.alloc o).heap[w.heap.size]? = some o := Array.getElem?_push_size
theorem grow_spec : GrowF Tryz.prog 165 3 := by
  intro w n hn
  rcases Nat.eq_zero_or_pos n with rfl | hpos
  · refine (Any8.slices_Grow_room grow_lays none 0 0 0 w (Nat.le_refl _) (by decide) (by decide) (Nat.le_refl _)).mono ?_
    rintro e w' ⟨rfl, rfl⟩
    exact ⟨Below.refl _ _, .inl rfl⟩
  · obtain ⟨i0, h1, h2, h3, h4⟩ := int_info
    refine (Any8.slices_Grow_grow grow_lays i0 _ h1 h2 (by omega) none 0 0 n [] w (Nat.le_refl _) (by omega) (by rw [h4]; omega) (by omega) (by simp) (fun _ => rfl) (fun a ha => by cases ha)).mono ?_
    rintro e w' ⟨rfl, rfl⟩
    generalize hg : grownCap w (0 + n) 0 3 = g
    have hok : okLen g := by rw [← hg]; exact grownCap_ok w (0 + n) 0 3 (by unfold okLen; omega)
    refine ⟨((Below.refl _ w).drew).alloc (Nat.le_refl _) _, .inr ⟨w.heap.size, g, (#[] ++ Builtin.zeroCells (Value.int .i64 0).cells (0 + n - 0) ++ Builtin.zeroCells (Value.int .i64 0).cells (g - (0 + n))).toList, ?_, Nat.le_refl _, ?_, ?_, hok⟩⟩
    · rw [← hg]; rfl
    · rw [Array.toArray_toList, ← hg]
      exact drew_alloc w _
    · rw [Array.length_toList]
      simp [size_zeroCells, Value.cells]
      omega
theorem holds_ints {w : World} {b : Nat} {cs : List Value} {t : TypeId} {l : List Int} (hb : w.heap[b]? = some (.cells cs.toArray t (0, 0))) (hl2 : ∀ i (_ : i < l.length), cs[i]? = some (.int .i64 (l.getD i 0))) : Holds (Value.int .i64) w b 0 l.toArray := fun j hj => by
  have hj : j < l.length := by simpa using hj
  have h1 := hl2 j hj
  refine ⟨?_, ?_⟩
  · rw [Nat.zero_add, cell_blk hb, h1]
    simp [List.getD_eq_getElem?_getD, hj]
  · simp [World.frozen?, hb]
theorem putc_get (cs : List Value) (l : List Int) (hl : l.length ≤ cs.length) : (putCells (Value.int .i64) 0 l.toArray cs.toArray).size = cs.length ∧ ∀ i (_ : i < l.length), (putCells (Value.int .i64) 0 l.toArray cs.toArray)[i]? = some (.int .i64 (l.getD i 0)) := by
  refine ⟨by simp [putCells], fun i hi => ?_⟩
  simp [putCells, hi, show i < cs.length by omega, List.getD_eq_getElem?_getD]
theorem sort_spec (l : List Int) (hl : l.length ≤ 1000000) : RowF Tryz.prog 110 l (l.mergeSort fun x y => decide (x ≤ y)) false := by
  refine ⟨fun _ w q c _ => (Any.slices_Sort_int_none Tryz.lays189 q c w).mono fun e w' ⟨h1, h2⟩ => ⟨h1, h2 ▸ Below.refl _ _⟩, fun w b c cs t hb hc hcs hok hl2 => ?_⟩
  have hlen : (l.mergeSort fun x y => decide (x ≤ y)).length = l.length := List.length_mergeSort _
  have hlt : b < w.heap.size := (Array.getElem?_eq_some_iff.1 hb).1
  refine (Tryz.slices_Sort_int b 0 c l w (holds_ints hb hl2) hlt (by omega)).mono ?_
  rintro e w' ⟨rfl, n, os, rfl⟩
  obtain ⟨q1, q2⟩ := putc_get cs (l.mergeSort fun x y => decide (x ≤ y)) (by omega)
  refine ⟨rfl, grownBy_sortedI _, (putCells (Value.int .i64) 0 (l.mergeSort fun x y => decide (x ≤ y)).toArray cs.toArray).toList, ?_, ?_, fun i hi => ?_⟩
  · rw [Array.toArray_toList]; exact heap_sortedI _ hb
  · rw [Array.length_toList]; exact q1
  · rw [Array.getElem?_toList]; exact q2 i hi
theorem compact_spec (l : List Int) (hl : l.length ≤ 1000000) : RowF Tryz.prog 111 l (Lib.compact l) true := by
  have hle := Lib.compact_length_le l
  refine ⟨fun _ w q c _ => (Tryz.slices_Compact_int_empty q c w).mono fun e w' ⟨h1, h2⟩ => ⟨h1, h2 ▸ Below.refl _ _⟩, fun w b c cs t hb hc hcs hok hl2 => ?_⟩
  have hlt : b < w.heap.size := (Array.getElem?_eq_some_iff.1 hb).1
  refine (Tryz.slices_Compact_int b 0 c l w (holds_ints hb hl2) (by omega) hc).mono ?_
  rintro e w' ⟨rfl, n, rfl⟩
  obtain ⟨q1, q2⟩ := putc_get cs (Lib.compact l ++ List.replicate (l.length - (Lib.compact l).length) 0) (by simp; omega)
  refine ⟨rfl, ?_, (putCells (Value.int .i64) 0 (Lib.compact l ++ List.replicate (l.length - (Lib.compact l).length) 0).toArray cs.toArray).toList, ?_, ?_, fun i hi => ?_⟩
  · exact grownBy_sortedI (os := #[]) _
  · rw [Array.toArray_toList]; exact heap_sortedI (os := #[]) _ hb
  · rw [Array.length_toList]; exact q1
  · rw [Array.getElem?_toList, q2 i (by simp; omega), List.getD_eq_getElem?_getD, List.getD_eq_getElem?_getD, List.getElem?_append_left hi]
end Go.Proofs.YtokaegeediokoaaGreatDoor
end
section
namespace Go.Proofs.YtokaegeediokoaaGreatDoor
open Go.RowKit V
set_option maxRecDepth 100000
set_option maxHeartbeats 8000000
set_option linter.unusedSimpArgs false
def enB (r : RootL) (name body : List UInt8) (l : List SigL) : Bool :=
  if fndI r name = -1 then false else decide ((r.roles.getD (fndI r name).toNat role0).need ≤ ((cntS r.keys (r.roles.getD (fndI r name).toNat role0).keys body l l.length).length : Int))
def RoleOk (r : RootL) (name body : List UInt8) (l : List SigL) : Prop :=
  fndI r name = -1 ∨ ∃ i : Nat, fndI r name = i ∧ i < r.roles.length ∧ i ≤ 1000 ∧ CntOk r.keys (r.roles.getD i role0).keys body l
structure TrustL where
  root : RootL
  floor : Int
  gone : List Int
  now : Int
@[reducible] def TrustL.c (t : TrustL) : List SV := [.int .i64 t.root.gen, .int .i64 t.root.expiry, .ro (keysE t.root.keys), .ro (rolesE t.root.roles), .int .i64 t.floor, .ro (.ints .i64 t.gone), .int .i64 t.now]
@[reducible] def TrustL.v (t : TrustL) : SV := .agg t.c
@[reducible] def relC (r : Rel) : List SV := [.int .i64 r.version, .int .i64 r.floor, .int .i64 r.expiry, .int .i64 r.size, .arr 32 (.u8 r.image), .int .i64 r.chunks, .arr 32 (.u8 r.tree), .ro (.ints .i64 r.gone), .ro (partsE r.parts)]
@[reducible] def sgdC (body : List UInt8) (l : List SigL) : List SV := [.ro (.u8 body), .ro (sigsE l)]
@[reducible] def ropT (t : TrustL) : SV := .rop (.g 1 7 fun _ => t.c) 0 0
@[reducible] def ropR (r : Rel) : SV := .rop (.g 1 71 fun _ => relC r) 0 0
@[reducible] def ropS (body : List UInt8) (l : List SigL) : SV := .rop (.g 1 2 fun _ => sgdC body l) 0 0
attribute [local irreducible] V.Sat V.DSat
theorem enough_spec (r : RootL) (name body : List UInt8) (l : List SigL) (h : RoleOk r name body l) : Fun Tryz.prog Γh 73 [r.v, .str name, .ro (.u8 body), .ro (sigsE l)] (.bool (enB r name body l)) := by
  rcases h with h | ⟨i, h, hi, hm, hok⟩
  · have h1 := count_none r name body l h
    have h2 := find_none (Γ := Γh) r name h
    have e : enB r name body l = false := by unfold enB; rw [if_pos h]
    rw [e]
    obtain ⟨g, ex, ks, rs⟩ := r
    refine Fun.mk 6 Tryz.func73 rfl Tryz.ntmps73 rfl rfl fun T w0 => ?_
    repeat' (first
      | ((with_reducible apply Sat.run (X := X64)); exact rfl; (first | exact True.intro | (exact phi) | skip))
      | ((with_reducible apply Sat.callR (h1)); exact rfl; exact rfl; exact rfl; kernel_rfl; (exact cnvX); exact rfl)
      | ((with_reducible apply Sat.call (h2)); exact rfl; exact rfl; kernel_rfl; (exact cnvX); exact rfl) | fail)
    (refine Sat.fin (Sat.end1 rfl rfl rfl True.intro (.refl _ purX) (by first | exact .inl rfl | exact .inr rfl) (fun _ h => h)) ?_; rfl)
  · have h1 := count_some r name body l i hi hm h hok
    have h2 := find_some (Γ := Γh) r name i hi hm h
    have e : enB r name body l = decide ((r.roles.getD i role0).need ≤ ((cntS r.keys (r.roles.getD i role0).keys body l l.length).length : Int)) := by
      unfold enB
      rw [if_neg (by rw [h]; omega), h, Int.toNat_natCast]
    rw [e]
    clear e hok h
    obtain ⟨g, ex, ks, rs⟩ := r
    dsimp only at h1 h2 ⊢
    generalize cntS ks _ body l l.length = n at h1 ⊢
    generalize rs.getD i role0 = ro at h2 ⊢
    obtain ⟨rn, K, nd⟩ := ro
    refine Fun.mk 6 Tryz.func73 rfl Tryz.ntmps73 rfl rfl fun T w0 => ?_
    repeat' (first
      | ((with_reducible apply Sat.run (X := X64)); exact rfl; (first | exact True.intro | (exact phi) | skip))
      | ((with_reducible apply Sat.callR (h1)); exact rfl; exact rfl; exact rfl; kernel_rfl; (exact cnvX); exact rfl)
      | ((with_reducible apply Sat.call (h2)); exact rfl; exact rfl; kernel_rfl; (exact cnvX); exact rfl) | fail)
    (refine Sat.fin (Sat.end1 rfl rfl rfl True.intro (.refl _ purX) (by first | exact .inl rfl | exact .inr rfl) (fun _ h => h)) ?_; rfl)
theorem a1_spec (t : TrustL) (r : Rel) : Fun Tryz.prog Γh 105 [ropT t, ropR r] (.tup [.bool (decide (t.now ≤ minV t.root.expiry r.expiry)), .int .i64 271]) := by
  refine Fun.mk 6 Tryz.func105 rfl Tryz.ntmps105 rfl rfl fun T w0 => ?_
  repeat' (first
    | ((with_reducible apply Sat.run (X := X64)); exact rfl; (first | exact True.intro | (exact phi) | skip)) | fail)
  (refine Sat.fin (Sat.end2 rfl rfl rfl rfl True.intro True.intro (.refl _ purX) (.refl _ purX) (by first | exact .inl rfl | exact .inr rfl) (fun _ h => h)) ?_; rfl)
theorem a2_spec (t : TrustL) (body : List UInt8) (l : List SigL) (h : RoleOk t.root [114, 101, 108, 101, 97, 115, 101] body l) : Fun Tryz.prog Γh 106 [ropT t, ropS body l] (.tup [.bool (enB t.root [114, 101, 108, 101, 97, 115, 101] body l), .int .i64 270]) := by
  have h1 := enough_spec t.root [114, 101, 108, 101, 97, 115, 101] body l h
  obtain ⟨⟨g, ex, ks, rs⟩, fl, go, nw⟩ := t
  refine Fun.mk 6 Tryz.func106 rfl Tryz.ntmps106 rfl rfl fun T w0 => ?_
  repeat' (first
    | ((with_reducible apply Sat.run (X := X64)); exact rfl; (first | exact True.intro | (exact phi) | skip))
    | ((with_reducible apply Sat.callR (h1)); exact rfl; exact rfl; exact rfl; kernel_rfl; (exact cnvX); exact rfl) | fail)
  (refine Sat.fin (Sat.end2 rfl rfl rfl rfl True.intro True.intro (.refl _ purX) (.refl _ purX) (by first | exact .inl rfl | exact .inr rfl) (fun _ h => h)) ?_; rfl)
theorem a3_spec (t : TrustL) (r : Rel) : Fun Tryz.prog Γh 107 [ropR r, ropT t] (.tup [.bool (decide (t.floor ≤ r.version)), .int .i64 272]) := by
  refine Fun.mk 6 Tryz.func107 rfl Tryz.ntmps107 rfl rfl fun T w0 => ?_
  repeat' (first
    | ((with_reducible apply Sat.run (X := X64)); exact rfl; (first | exact True.intro | (exact phi) | skip)) | fail)
  (refine Sat.fin (Sat.end2 rfl rfl rfl rfl True.intro True.intro (.refl _ purX) (.refl _ purX) (by first | exact .inl rfl | exact .inr rfl) (fun _ h => h)) ?_; rfl)
theorem a4_spec (t : TrustL) (r : Rel) : Fun Tryz.prog Γh 108 [ropT t, ropR r] (.tup [.bool (!t.gone.any fun y => decide (r.version = y)), .int .i64 273]) := by
  have h1 : Fun Tryz.prog Γh 44 [.ro (.ints .i64 t.gone), .int .i64 r.version] (.bool (t.gone.any fun y => decide (r.version = y))) := (contains_int r.version t.gone).weak
  refine Fun.mk 6 Tryz.func108 rfl Tryz.ntmps108 rfl rfl fun T w0 => ?_
  repeat' (first
    | ((with_reducible apply Sat.run (X := X64)); exact rfl; (first | exact True.intro | (exact phi) | skip))
    | ((with_reducible apply Sat.callR (h1)); exact rfl; exact rfl; exact rfl; kernel_rfl; (exact cnvX); exact rfl) | fail)
  (refine Sat.fin (Sat.end2 rfl rfl rfl rfl True.intro True.intro (.refl _ purX) (.refl _ purX) (by first | exact .inl rfl | exact .inr rfl) (fun _ h => h)) ?_; rfl)
def allowB (t : TrustL) (v : Int) : Bool := decide (t.floor ≤ v) && (decide (v ≤ 60000) && !t.gone.any fun y => decide (v = y))
theorem allows_spec (t : TrustL) (v : Int) : Fun Tryz.prog Γh 20 [t.v, .int .i64 v] (.bool (allowB t v)) := by
  have h1 : Fun Tryz.prog Γh 44 [.ro (.ints .i64 t.gone), .int .i64 v] (.bool (t.gone.any fun y => decide (v = y))) := (contains_int v t.gone).weak
  refine Fun.mk 6 Tryz.func20 rfl Tryz.ntmps20 rfl rfl fun T w0 => ?_
  repeat' (first
    | ((with_reducible apply Sat.run (X := X64)); exact rfl; (first | exact True.intro | (exact phi) | skip))
    | ((with_reducible apply Sat.callG1 (h1)); exact rfl; exact rfl; exact rfl; exact rfl; kernel_rfl; (intro hG; (exact cnvX)); exact rfl) | fail)
  (refine Sat.fin (Sat.end1 rfl rfl rfl True.intro (.refl _ purX) (by first | exact .inl rfl | exact .inr rfl) (fun _ h => h)) ?_; (refine congrArg SV.bool ?_; unfold allowB; cases decide (t.floor ≤ v) <;> cases decide (v ≤ 60000) <;> rfl))
end Go.Proofs.YtokaegeediokoaaGreatDoor
end
section
namespace Go.Proofs.YtokaegeediokoaaGreatDoor
open Go.RowKit V
set_option maxRecDepth 100000
set_option maxHeartbeats 8000000
set_option linter.unusedSimpArgs false
theorem V.mapM_run3 {P : Program} {w : World} {f : ResultVar → Sem Value} {r r' r2 : ResultVar} {v v' v2 : Value} (h1 : (f r).run P w = .ok v w) (h2 : (f r').run P w = .ok v' w) (h3 : (f r2).run P w = .ok v2 w) :
    ((do let vs ← (#[r, r', r2] : Array ResultVar).mapM f; pure (if h : vs.size = 1 then vs[0] else .tuple vs)) : Sem Value).run P w = .ok (.tuple #[v, v', v2]) w := by simp [h1, h2, h3]
theorem V.Sat.end3 {C : Ctx} {F : Tr} {M : Mem} {ids : List Nat} {fn : Func} {res res' res2 : SV} {e : Ex} {r r' r2 : ResultVar} {φ φ' φ2 : List Prop} {s s' s2 : SV} (hn : C.wide = false) (hr : fn.results = #[r, r', r2]) (h1 : resV C.P F M r = some (φ, s)) (h2 : resV C.P F M r' = some (φ', s')) (h3 : resV C.P F M r2 = some (φ2, s2)) (hφ : AllP φ) (hφ' : AllP φ') (hφ2 : AllP φ2) (hc : Conv M s res) (hc' : Conv M s' res') (hc2 : Conv M s2 res2) (he : e = .ret ∨ e = .normal) (hS : ∀ b, ¬ C.S b) :
    Sat C (bodyPost C.P fn (Post C.T0 C.W0 (.tup [res, res', res2]))) (.ext e F M ids []) := end_core he fun U E a w _ hst => by
  obtain ⟨v, q1, q2⟩ := resV_ok hst h1 hφ
  obtain ⟨v', q1', q2'⟩ := resV_ok hst h2 hφ'
  obtain ⟨v2, q12, q22⟩ := resV_ok hst h3 hφ2
  have t1 := Conv.ok hst.mem (fun _ _ h => .inr h) (hst.apart hn) hc q1
  have t2 := Conv.ok hst.mem (fun _ _ h => .inr h) (hst.apart hn) hc' q1'
  have t3 := Conv.ok hst.mem (fun _ _ h => .inr h) (hst.apart hn) hc2 q12
  refine ⟨.tuple #[v, v', v2], ?_, _, rfl, .tup _ [v, v', v2] (.cons _ _ _ _ t1 (.cons _ _ _ _ t2 (.cons _ _ _ _ t3 .nil))), hst.post hS⟩
  unfold results
  rw [hr]
  exact mapM_run3 q2 q2' q22
@[reducible] def nmRel : List UInt8 := [114, 101, 108, 101, 97, 115, 101]
def goneU (a b : List Int) : List Int := Lib.compact ((a ++ b).mergeSort fun x y => decide (x ≤ y))
def accE (t : TrustL) (body : List UInt8) (l : List SigL) : Int :=
  if okP body = false then 260 else if ¬ t.now ≤ minV t.root.expiry (parseP body).expiry then 271 else if enB t.root nmRel body l = false then 270
  else if ¬ t.floor ≤ (parseP body).version then 272 else if (t.gone.any fun y => decide ((parseP body).version = y)) = true then 273 else 0
def accT (t : TrustL) (body : List UInt8) (l : List SigL) : TrustL :=
  if accE t body l = 0 then ⟨t.root, maxV t.floor (parseP body).floor, goneU t.gone (parseP body).gone, t.now⟩ else t
def accR (t : TrustL) (body : List UInt8) (l : List SigL) : Rel := if accE t body l = 0 then parseP body else zeroRel
theorem conv_zeroRel {M : Mem} : Conv M (.agg [.int .i64 0, .int .i64 0, .int .i64 0, .int .i64 0, .arr 32 (.u8 (List.replicate 32 0)), .int .i64 0, .arr 32 (.u8 (List.replicate 32 0)), .nils, .nils]) (.agg (relC zeroRel)) :=
  .agg _ _ (.cons _ _ _ _ (.refl _ trivial) (.cons _ _ _ _ (.refl _ trivial) (.cons _ _ _ _ (.refl _ trivial) (.cons _ _ _ _ (.refl _ trivial) (.cons _ _ _ _ (.refl _ trivial) (.cons _ _ _ _ (.refl _ trivial) (.cons _ _ _ _ (.refl _ trivial) (.cons _ _ _ _ (.nils (.ints .i64 []) rfl) (.cons _ _ _ _ (.nils (partsE []) rfl) .nil)))))))))
theorem pure_trust (t : TrustL) : pureS t.v := ⟨trivial, trivial, fun _ _ => ⟨trivial, trivial⟩, fun _ _ => ⟨trivial, trivial, trivial, trivial⟩, trivial, trivial, trivial, trivial⟩
theorem pure_rel (r : Rel) : pureL (relC r) := ⟨trivial, trivial, trivial, trivial, trivial, trivial, trivial, trivial, fun _ _ => ⟨trivial, trivial, trivial⟩, trivial⟩
theorem compact_mem {zs : List Int} {y : Int} (h : y ∈ Lib.compact zs) : y ∈ zs := by
  unfold Lib.compact Lib.compactUpTo at h
  obtain ⟨j, hj, rfl⟩ := List.mem_map.1 h
  have hj2 := List.mem_range.1 (List.mem_filter.1 hj).1
  have : zs.toArray[j]! = zs[j] := by rw [getElem!_pos _ j (by simpa using hj2)]; simp
  rw [this]
  exact List.getElem_mem _
attribute [local irreducible] V.Sat V.DSat
theorem accept_bad (t : TrustL) (body : List UInt8) (l : List SigL) (h : okP body = false) : Fun Tryz.prog Γh 48 [t.v, .agg (sgdC body l)] (.tup [t.v, .agg (relC zeroRel), .int .i64 260]) := by
  have h1 := (parse_walk body).weak (Γ := Γh)
  rw [h] at h1
  dsimp only [cond_false] at h1
  refine Fun.mk 6 Tryz.func48 rfl Tryz.ntmps48 rfl rfl fun T w0 => ?_
  repeat' (first
    | ((with_reducible apply Sat.run (X := X64)); exact rfl; (first | exact True.intro | (exact phi) | skip))
    | ((with_reducible apply Sat.cond_t); exact rfl)
    | ((with_reducible apply Sat.call (h1)); exact rfl; exact rfl; kernel_rfl; (exact cnvX); exact rfl) | fail)
  exact Sat.fin (Sat.end3 rfl rfl rfl rfl rfl True.intro True.intro True.intro (.refl _ (pure_trust t)) conv_zeroRel (.refl _ trivial) (by first | exact .inl rfl | exact .inr rfl) (fun _ h => h)) rfl
theorem accept_c1 (t : TrustL) (body : List UInt8) (l : List SigL) (h : okP body = true) (hc1 : decide (t.now ≤ minV t.root.expiry (parseP body).expiry) = false) : Fun Tryz.prog Γh 48 [t.v, .agg (sgdC body l)] (.tup [t.v, .agg (relC zeroRel), .int .i64 271]) := by
  have h1 := (parse_walk body).weak (Γ := Γh)
  rw [h] at h1
  dsimp only [cond_true] at h1
  have k1 := a1_spec t (parseP body)
  rw [hc1] at k1
  generalize parseP body = r at h1 k1
  refine Fun.mk 6 Tryz.func48 rfl Tryz.ntmps48 rfl rfl fun T w0 => ?_
  repeat' (first
    | ((with_reducible apply Sat.run (X := X64)); exact rfl; (first | exact True.intro | (exact phi) | skip))
    | ((with_reducible apply Sat.cond_t); exact rfl)
    | ((with_reducible apply Sat.cond_f); exact rfl)
    | ((with_reducible apply Sat.call (h1)); exact rfl; exact rfl; kernel_rfl; (exact cnvX); exact rfl)
    | ((with_reducible apply Sat.inl 7 [] Tryz.func69 Tryz.ntmps69); exact rfl; exact rfl; kernel_rfl; exact rfl; exact rfl; exact rfl; exact rfl; ((repeat' (first | exact AllP.nil | with_reducible refine AllP.cons ?_ ?_)) <;> (first | exact True.intro | exact purX)); intro _ _)
    | ((with_reducible apply Sat.out1 (C := ⟨_, _, _, _, _, _, _, _, _⟩)); exact rfl; (first | exact .inl rfl | exact .inr rfl); exact rfl; (exact phi); exact rfl)
    | (with_reducible apply Sat.unroll 40)
    | ((with_reducible apply Sat.callR (k1)); exact rfl; exact rfl; exact rfl; kernel_rfl; (exact cnvX); exact rfl) | fail)
  exact Sat.fin (Sat.end3 rfl rfl rfl rfl rfl True.intro True.intro True.intro (.refl _ (pure_trust t)) conv_zeroRel (.refl _ trivial) (by first | exact .inl rfl | exact .inr rfl) (fun _ h => h)) rfl
theorem accept_c2 (t : TrustL) (body : List UInt8) (l : List SigL) (h : okP body = true) (hro : RoleOk t.root nmRel body l) (hc1 : decide (t.now ≤ minV t.root.expiry (parseP body).expiry) = true) (hc2 : enB t.root nmRel body l = false) : Fun Tryz.prog Γh 48 [t.v, .agg (sgdC body l)] (.tup [t.v, .agg (relC zeroRel), .int .i64 270]) := by
  have h1 := (parse_walk body).weak (Γ := Γh)
  rw [h] at h1
  dsimp only [cond_true] at h1
  have k1 := a1_spec t (parseP body)
  rw [hc1] at k1
  have k2 := a2_spec t body l hro
  rw [show enB t.root [114, 101, 108, 101, 97, 115, 101] body l = enB t.root nmRel body l from rfl, hc2] at k2
  generalize parseP body = r at h1 k1
  refine Fun.mk 6 Tryz.func48 rfl Tryz.ntmps48 rfl rfl fun T w0 => ?_
  repeat' (first
    | ((with_reducible apply Sat.run (X := X64)); exact rfl; (first | exact True.intro | (exact phi) | skip))
    | ((with_reducible apply Sat.cond_t); exact rfl)
    | ((with_reducible apply Sat.cond_f); exact rfl)
    | ((with_reducible apply Sat.call (h1)); exact rfl; exact rfl; kernel_rfl; (exact cnvX); exact rfl)
    | ((with_reducible apply Sat.inl 7 [] Tryz.func69 Tryz.ntmps69); exact rfl; exact rfl; kernel_rfl; exact rfl; exact rfl; exact rfl; exact rfl; ((repeat' (first | exact AllP.nil | with_reducible refine AllP.cons ?_ ?_)) <;> (first | exact True.intro | exact purX)); intro _ _)
    | ((with_reducible apply Sat.out1 (C := ⟨_, _, _, _, _, _, _, _, _⟩)); exact rfl; (first | exact .inl rfl | exact .inr rfl); exact rfl; (exact phi); exact rfl)
    | (with_reducible apply Sat.unroll 40)
    | (with_reducible apply Sat.again)
    | ((with_reducible apply Sat.callR (k1)); exact rfl; exact rfl; exact rfl; kernel_rfl; (exact cnvX); exact rfl)
    | ((with_reducible apply Sat.callR (k2)); exact rfl; exact rfl; exact rfl; kernel_rfl; (exact cnvX); exact rfl) | fail)
  exact Sat.fin (Sat.end3 rfl rfl rfl rfl rfl True.intro True.intro True.intro (.refl _ (pure_trust t)) conv_zeroRel (.refl _ trivial) (by first | exact .inl rfl | exact .inr rfl) (fun _ h => h)) rfl
theorem accept_c3 (t : TrustL) (body : List UInt8) (l : List SigL) (h : okP body = true) (hro : RoleOk t.root nmRel body l) (hc1 : decide (t.now ≤ minV t.root.expiry (parseP body).expiry) = true) (hc2 : enB t.root nmRel body l = true) (hc3 : decide (t.floor ≤ (parseP body).version) = false) : Fun Tryz.prog Γh 48 [t.v, .agg (sgdC body l)] (.tup [t.v, .agg (relC zeroRel), .int .i64 272]) := by
  have h1 := (parse_walk body).weak (Γ := Γh)
  rw [h] at h1
  dsimp only [cond_true] at h1
  have k1 := a1_spec t (parseP body)
  rw [hc1] at k1
  have k2 := a2_spec t body l hro
  rw [show enB t.root [114, 101, 108, 101, 97, 115, 101] body l = enB t.root nmRel body l from rfl, hc2] at k2
  have k3 := a3_spec t (parseP body)
  rw [hc3] at k3
  generalize parseP body = r at h1 k1 k3
  refine Fun.mk 6 Tryz.func48 rfl Tryz.ntmps48 rfl rfl fun T w0 => ?_
  repeat' (first
    | ((with_reducible apply Sat.run (X := X64)); exact rfl; (first | exact True.intro | (exact phi) | skip))
    | ((with_reducible apply Sat.cond_t); exact rfl)
    | ((with_reducible apply Sat.cond_f); exact rfl)
    | ((with_reducible apply Sat.call (h1)); exact rfl; exact rfl; kernel_rfl; (exact cnvX); exact rfl)
    | ((with_reducible apply Sat.inl 7 [] Tryz.func69 Tryz.ntmps69); exact rfl; exact rfl; kernel_rfl; exact rfl; exact rfl; exact rfl; exact rfl; ((repeat' (first | exact AllP.nil | with_reducible refine AllP.cons ?_ ?_)) <;> (first | exact True.intro | exact purX)); intro _ _)
    | ((with_reducible apply Sat.out1 (C := ⟨_, _, _, _, _, _, _, _, _⟩)); exact rfl; (first | exact .inl rfl | exact .inr rfl); exact rfl; (exact phi); exact rfl)
    | (with_reducible apply Sat.unroll 40)
    | (with_reducible apply Sat.again)
    | ((with_reducible apply Sat.callR (k1)); exact rfl; exact rfl; exact rfl; kernel_rfl; (exact cnvX); exact rfl)
    | ((with_reducible apply Sat.callR (k2)); exact rfl; exact rfl; exact rfl; kernel_rfl; (exact cnvX); exact rfl)
    | ((with_reducible apply Sat.callR (k3)); exact rfl; exact rfl; exact rfl; kernel_rfl; (exact cnvX); exact rfl) | fail)
  exact Sat.fin (Sat.end3 rfl rfl rfl rfl rfl True.intro True.intro True.intro (.refl _ (pure_trust t)) conv_zeroRel (.refl _ trivial) (by first | exact .inl rfl | exact .inr rfl) (fun _ h => h)) rfl
theorem accept_c4 (t : TrustL) (body : List UInt8) (l : List SigL) (h : okP body = true) (hro : RoleOk t.root nmRel body l) (hc1 : decide (t.now ≤ minV t.root.expiry (parseP body).expiry) = true) (hc2 : enB t.root nmRel body l = true) (hc3 : decide (t.floor ≤ (parseP body).version) = true) (hc4 : (t.gone.any fun y => decide ((parseP body).version = y)) = true) : Fun Tryz.prog Γh 48 [t.v, .agg (sgdC body l)] (.tup [t.v, .agg (relC zeroRel), .int .i64 273]) := by
  have h1 := (parse_walk body).weak (Γ := Γh)
  rw [h] at h1
  dsimp only [cond_true] at h1
  have k1 := a1_spec t (parseP body)
  rw [hc1] at k1
  have k2 := a2_spec t body l hro
  rw [show enB t.root [114, 101, 108, 101, 97, 115, 101] body l = enB t.root nmRel body l from rfl, hc2] at k2
  have k3 := a3_spec t (parseP body)
  rw [hc3] at k3
  have k4 := a4_spec t (parseP body)
  rw [hc4] at k4
  generalize parseP body = r at h1 k1 k3 k4
  refine Fun.mk 6 Tryz.func48 rfl Tryz.ntmps48 rfl rfl fun T w0 => ?_
  repeat' (first
    | ((with_reducible apply Sat.run (X := X64)); exact rfl; (first | exact True.intro | (exact phi) | skip))
    | ((with_reducible apply Sat.cond_t); exact rfl)
    | ((with_reducible apply Sat.cond_f); exact rfl)
    | ((with_reducible apply Sat.call (h1)); exact rfl; exact rfl; kernel_rfl; (exact cnvX); exact rfl)
    | ((with_reducible apply Sat.inl 7 [] Tryz.func69 Tryz.ntmps69); exact rfl; exact rfl; kernel_rfl; exact rfl; exact rfl; exact rfl; exact rfl; ((repeat' (first | exact AllP.nil | with_reducible refine AllP.cons ?_ ?_)) <;> (first | exact True.intro | exact purX)); intro _ _)
    | ((with_reducible apply Sat.out1 (C := ⟨_, _, _, _, _, _, _, _, _⟩)); exact rfl; (first | exact .inl rfl | exact .inr rfl); exact rfl; (exact phi); exact rfl)
    | (with_reducible apply Sat.unroll 40)
    | (with_reducible apply Sat.again)
    | ((with_reducible apply Sat.callR (k1)); exact rfl; exact rfl; exact rfl; kernel_rfl; (exact cnvX); exact rfl)
    | ((with_reducible apply Sat.callR (k2)); exact rfl; exact rfl; exact rfl; kernel_rfl; (exact cnvX); exact rfl)
    | ((with_reducible apply Sat.callR (k3)); exact rfl; exact rfl; exact rfl; kernel_rfl; (exact cnvX); exact rfl)
    | ((with_reducible apply Sat.callR (k4)); exact rfl; exact rfl; exact rfl; kernel_rfl; (exact cnvX); exact rfl) | fail)
  exact Sat.fin (Sat.end3 rfl rfl rfl rfl rfl True.intro True.intro True.intro (.refl _ (pure_trust t)) conv_zeroRel (.refl _ trivial) (by first | exact .inl rfl | exact .inr rfl) (fun _ h => h)) rfl
theorem accept_ok (t : TrustL) (body : List UInt8) (l : List SigL) (h : okP body = true) (hro : RoleOk t.root nmRel body l) (hc1 : decide (t.now ≤ minV t.root.expiry (parseP body).expiry) = true) (hc2 : enB t.root nmRel body l = true) (hc3 : decide (t.floor ≤ (parseP body).version) = true) (hc4 : (t.gone.any fun y => decide ((parseP body).version = y)) = false) (hg : t.gone.length ≤ 1000) (hg2 : (parseP body).gone.length ≤ 1000) : Fun Tryz.prog Γh 48 [t.v, .agg (sgdC body l)] (.tup [TrustL.v ⟨t.root, maxV t.floor (parseP body).floor, goneU t.gone (parseP body).gone, t.now⟩, .agg (relC (parseP body)), .int .i64 0]) := by
  have h1 := (parse_walk body).weak (Γ := Γh)
  rw [h] at h1
  dsimp only [cond_true] at h1
  have k1 := a1_spec t (parseP body)
  rw [hc1] at k1
  have k2 := a2_spec t body l hro
  rw [show enB t.root [114, 101, 108, 101, 97, 115, 101] body l = enB t.root nmRel body l from rfl, hc2] at k2
  have k3 := a3_spec t (parseP body)
  rw [hc3] at k3
  have k4 := a4_spec t (parseP body)
  rw [hc4] at k4
  generalize parseP body = r at h1 k1 k3 k4 hg2 ⊢
  obtain ⟨rt, fl, go, nw⟩ := t
  dsimp only at hg k1 k2 k3 k4 ⊢
  refine Fun.mk 7 Tryz.func48 rfl Tryz.ntmps48 rfl rfl fun T w0 => ?_
  repeat' (first
    | ((with_reducible apply Sat.run (X := X64)); exact rfl; (first | exact True.intro | (exact phi) | skip))
    | ((with_reducible apply Sat.cond_f); exact rfl)
    | ((with_reducible apply Sat.call (h1)); exact rfl; exact rfl; kernel_rfl; (exact cnvX); exact rfl)
    | ((with_reducible apply Sat.inl 7 [] Tryz.func69 Tryz.ntmps69); exact rfl; exact rfl; kernel_rfl; exact rfl; exact rfl; exact rfl; exact rfl; ((repeat' (first | exact AllP.nil | with_reducible refine AllP.cons ?_ ?_)) <;> (first | exact True.intro | exact purX)); intro _ _) | fail)
  with_reducible apply Sat.unroll 40
  repeat' (first
    | ((with_reducible apply Sat.run (X := X64)); exact rfl; (first | exact True.intro | (exact phi) | skip))
    | ((with_reducible apply Sat.cond_t); exact rfl)
    | ((with_reducible apply Sat.cond_f); exact rfl)
    | ((with_reducible apply Sat.out1 (C := ⟨_, _, _, _, _, _, _, _, _⟩)); exact rfl; (first | exact .inl rfl | exact .inr rfl); exact rfl; (exact phi); exact rfl)
    | (with_reducible apply Sat.again)
    | ((with_reducible apply Sat.callR (k1)); exact rfl; exact rfl; exact rfl; kernel_rfl; (exact cnvX); exact rfl)
    | ((with_reducible apply Sat.callR (k2)); exact rfl; exact rfl; exact rfl; kernel_rfl; (exact cnvX); exact rfl)
    | ((with_reducible apply Sat.callR (k3)); exact rfl; exact rfl; exact rfl; kernel_rfl; (exact cnvX); exact rfl)
    | ((with_reducible apply Sat.callR (k4)); exact rfl; exact rfl; exact rfl; kernel_rfl; (exact cnvX); exact rfl)
    | ((with_reducible apply Sat.inl 7 [] Tryz.func109 Tryz.ntmps109); exact rfl; exact rfl; kernel_rfl; exact rfl; exact rfl; exact rfl; exact rfl; ((repeat' (first | exact AllP.nil | with_reducible refine AllP.cons ?_ ?_)) <;> (first | exact True.intro | exact purX)); intro _ _) | fail)
  with_reducible apply Sat.unroll 40
  repeat' (first
    | ((with_reducible apply Sat.run (X := X64)); exact rfl; (first | exact True.intro | (exact phi) | skip))
    | ((with_reducible apply Sat.cond_t); exact rfl)
    | ((with_reducible apply Sat.cond_f); exact rfl)
    | (with_reducible apply Sat.again)
    | ((with_reducible apply Sat.growNil grow_spec); exact rfl; kernel_rfl; (constructor <;> (simp only [EV.len]; omega)); exact rfl) | fail)
  with_reducible apply Sat.unroll 40
  repeat' (first
    | ((with_reducible apply Sat.run (X := X64)); exact rfl; (first | exact True.intro | (exact phi) | skip))
    | ((with_reducible apply Sat.cond_t); exact rfl)
    | ((with_reducible apply Sat.cond_f); exact rfl)
    | (with_reducible apply Sat.again)
    | ((with_reducible apply Sat.out1 (C := ⟨_, _, _, _, _, _, _, _, _⟩)); exact rfl; (first | exact .inl rfl | exact .inr rfl); exact rfl; (exact phi); exact rfl) | fail)
  have hsort := sort_spec (go ++ r.gone) (by rw [List.length_append]; omega)
  have hlen : ((go ++ r.gone).mergeSort fun x y => decide (x ≤ y)).length = (go ++ r.gone).length := List.length_mergeSort _
  have hcomp := compact_spec ((go ++ r.gone).mergeSort fun x y => decide (x ≤ y)) (by rw [hlen, List.length_append]; omega)
  refine Sat.rowCall hsort rfl (by show 0 + go.length + r.gone.length = _; rw [List.length_append]; omega) (by kernel_rfl) rfl rfl (by omega) (fun y hy => List.mem_mergeSort.1 hy) rfl ?_
  repeat' (first
    | ((with_reducible apply Sat.run (X := X64)); exact rfl; (first | exact True.intro | (exact phi) | skip)) | fail)
  refine Sat.rowCall hcomp rfl (by show 0 + go.length + r.gone.length = _; rw [hlen, List.length_append]; omega) (by kernel_rfl) rfl rfl (Lib.compact_length_le _) (fun y hy => ?_) rfl ?_
  · exact compact_mem hy
  repeat' (first
    | ((with_reducible apply Sat.run (X := X64)); exact rfl; (first | exact True.intro | (exact phi) | skip))
    | ((with_reducible apply Sat.drawn); kernel_rfl)
    | ((with_reducible apply DSat.run (X := X64)); exact rfl; (first | exact True.intro | (exact phi) | skip))
    | ((with_reducible apply DSat.fin); kernel_rfl) | fail)
  exact Sat.fin (Sat.end3 rfl rfl rfl rfl rfl True.intro True.intro True.intro (.agg _ _ (.cons _ _ _ _ (.refl _ trivial) (.cons _ _ _ _ (.refl _ trivial) (.cons _ _ _ _ (.refl _ (fun _ _ => ⟨trivial, trivial⟩)) (.cons _ _ _ _ (.refl _ (fun _ _ => ⟨trivial, trivial, trivial, trivial⟩)) (.cons _ _ _ _ (.refl _ trivial) (.cons _ _ _ _ (.all _ _ _ _ _ rfl rfl rfl trivial) (.cons _ _ _ _ (.refl _ trivial) .nil)))))))) (.refl _ (pure_rel r)) (.refl _ trivial) (by first | exact .inl rfl | exact .inr rfl) (fun _ h => h)) rfl
theorem accept_spec (t : TrustL) (body : List UInt8) (l : List SigL) (hro : okP body = true → RoleOk t.root nmRel body l) (hg : t.gone.length ≤ 1000) (hg2 : (parseP body).gone.length ≤ 1000) : Fun Tryz.prog Γh 48 [t.v, .agg (sgdC body l)] (.tup [(accT t body l).v, .agg (relC (accR t body l)), .int .i64 (accE t body l)]) := by
  cases h : okP body with
  | false =>
    have e : accE t body l = 260 := by unfold accE; rw [if_pos h]
    have e1 : accT t body l = t := by unfold accT; rw [e, if_neg (by decide)]
    have e2 : accR t body l = zeroRel := by unfold accR; rw [e, if_neg (by decide)]
    rw [e, e1, e2]
    exact accept_bad t body l h
  | true =>
    have hro := hro h
    have e0 : ¬ okP body = false := by rw [h]; decide
    by_cases c1 : t.now ≤ minV t.root.expiry (parseP body).expiry
    · cases c2 : enB t.root nmRel body l with
      | false =>
        have e : accE t body l = 270 := by unfold accE; rw [if_neg e0, if_neg (not_not_intro c1), if_pos c2]
        have e1 : accT t body l = t := by unfold accT; rw [e, if_neg (by decide)]
        have e2 : accR t body l = zeroRel := by unfold accR; rw [e, if_neg (by decide)]
        rw [e, e1, e2]
        exact accept_c2 t body l h hro (decide_eq_true c1) c2
      | true =>
        have e3 : ¬ enB t.root nmRel body l = false := by rw [c2]; decide
        by_cases c3 : t.floor ≤ (parseP body).version
        · cases c4 : (t.gone.any fun y => decide ((parseP body).version = y)) with
          | true =>
            have e : accE t body l = 273 := by unfold accE; rw [if_neg e0, if_neg (not_not_intro c1), if_neg e3, if_neg (not_not_intro c3), if_pos c4]
            have e1 : accT t body l = t := by unfold accT; rw [e, if_neg (by decide)]
            have e2 : accR t body l = zeroRel := by unfold accR; rw [e, if_neg (by decide)]
            rw [e, e1, e2]
            exact accept_c4 t body l h hro (decide_eq_true c1) c2 (decide_eq_true c3) c4
          | false =>
            have e : accE t body l = 0 := by unfold accE; rw [if_neg e0, if_neg (not_not_intro c1), if_neg e3, if_neg (not_not_intro c3), if_neg (by rw [c4]; decide)]
            have e1 : accT t body l = ⟨t.root, maxV t.floor (parseP body).floor, goneU t.gone (parseP body).gone, t.now⟩ := by unfold accT; rw [e, if_pos rfl]
            have e2 : accR t body l = parseP body := by unfold accR; rw [e, if_pos rfl]
            rw [e, e1, e2]
            exact accept_ok t body l h hro (decide_eq_true c1) c2 (decide_eq_true c3) c4 hg hg2
        · have e : accE t body l = 272 := by unfold accE; rw [if_neg e0, if_neg (not_not_intro c1), if_neg e3, if_pos c3]
          have e1 : accT t body l = t := by unfold accT; rw [e, if_neg (by decide)]
          have e2 : accR t body l = zeroRel := by unfold accR; rw [e, if_neg (by decide)]
          rw [e, e1, e2]
          exact accept_c3 t body l h hro (decide_eq_true c1) c2 (decide_eq_false c3)
    · have e : accE t body l = 271 := by unfold accE; rw [if_neg e0, if_pos c1]
      have e1 : accT t body l = t := by unfold accT; rw [e, if_neg (by decide)]
      have e2 : accR t body l = zeroRel := by unfold accR; rw [e, if_neg (by decide)]
      rw [e, e1, e2]
      exact accept_c1 t body l h (decide_eq_false c1)
end Go.Proofs.YtokaegeediokoaaGreatDoor
end
section
namespace Go.Proofs.YtokaegeediokoaaGreatDoor
open Go.RowKit V
set_option maxRecDepth 100000
set_option maxHeartbeats 8000000
set_option linter.unusedSimpArgs false
@[reducible] def nmRoot : List UInt8 := [114, 111, 111, 116]
@[reducible] def RootL.c (r : RootL) : List SV := [.int .i64 r.gen, .int .i64 r.expiry, .ro (keysE r.keys), .ro (rolesE r.roles)]
@[reducible] def ropQ (r : RootL) : SV := .rop (.g 1 4 fun _ => r.c) 0 0
@[reducible] def ropL (l : List SigL) : SV := .rop (.g 1 1 fun _ => [.ro (sigsE l)]) 0 0
def latS (l : List SigL) : Nat → List SigL
  | 0 => []
  | x + 1 => latS l x ++ if decide (8 ≤ (l.getD x sig0).key) = true then [⟨(l.getD x sig0).key - 8, (l.getD x sig0).ch⟩] else []
theorem latS_len (l : List SigL) : ∀ x, (latS l x).length ≤ x
  | 0 => Nat.le_refl _
  | x + 1 => by
    have := latS_len l x
    rw [latS, List.length_append]
    split <;> simp <;> omega
def rotE (t : TrustL) (body : List UInt8) (l : List SigL) : Int :=
  if okQ body = false then 260 else if ¬ (parseQ body).gen = t.root.gen + 1 then 274 else if ¬ t.now ≤ (parseQ body).expiry then 271 else if enB t.root nmRoot body l = false then 270
  else if enB (parseQ body) nmRoot body (latS l l.length) = false then 270 else 0
def rotT (t : TrustL) (body : List UInt8) (l : List SigL) : TrustL := if rotE t body l = 0 then ⟨parseQ body, t.floor, t.gone, t.now⟩ else t
attribute [local irreducible] V.Sat V.DSat
theorem r1_spec (t : TrustL) (r : RootL) (h : t.root.gen ≤ 1000000) (h0 : 0 ≤ t.root.gen) : Fun Tryz.prog Γh 70 [ropQ r, ropT t] (.tup [.bool (decide (r.gen = t.root.gen + 1)), .int .i64 274]) := by
  refine Fun.mk 6 Tryz.func70 rfl Tryz.ntmps70 rfl rfl fun T w0 => ?_
  repeat' (first
    | ((with_reducible apply Sat.run (X := X64)); exact rfl; (first | exact True.intro | (exact phi) | skip)) | fail)
  (refine Sat.fin (Sat.end2 rfl rfl rfl rfl True.intro True.intro (.refl _ purX) (.refl _ purX) (by first | exact .inl rfl | exact .inr rfl) (fun _ h => h)) ?_; rfl)
theorem r2_spec (t : TrustL) (r : RootL) : Fun Tryz.prog Γh 71 [ropQ r, ropT t] (.tup [.bool (decide (t.now ≤ r.expiry)), .int .i64 271]) := by
  refine Fun.mk 6 Tryz.func71 rfl Tryz.ntmps71 rfl rfl fun T w0 => ?_
  repeat' (first
    | ((with_reducible apply Sat.run (X := X64)); exact rfl; (first | exact True.intro | (exact phi) | skip)) | fail)
  (refine Sat.fin (Sat.end2 rfl rfl rfl rfl True.intro True.intro (.refl _ purX) (.refl _ purX) (by first | exact .inl rfl | exact .inr rfl) (fun _ h => h)) ?_; rfl)
theorem r3_spec (t : TrustL) (body : List UInt8) (l : List SigL) (h : RoleOk t.root nmRoot body l) : Fun Tryz.prog Γh 72 [ropT t, ropS body l] (.tup [.bool (enB t.root nmRoot body l), .int .i64 270]) := by
  have h1 := enough_spec t.root [114, 111, 111, 116] body l h
  obtain ⟨⟨g, ex, ks, rs⟩, fl, go, nw⟩ := t
  refine Fun.mk 6 Tryz.func72 rfl Tryz.ntmps72 rfl rfl fun T w0 => ?_
  repeat' (first
    | ((with_reducible apply Sat.run (X := X64)); exact rfl; (first | exact True.intro | (exact phi) | skip))
    | ((with_reducible apply Sat.callR (h1)); exact rfl; exact rfl; exact rfl; kernel_rfl; (exact cnvX); exact rfl) | fail)
  (refine Sat.fin (Sat.end2 rfl rfl rfl rfl True.intro True.intro (.refl _ purX) (.refl _ purX) (by first | exact .inl rfl | exact .inr rfl) (fun _ h => h)) ?_; rfl)
theorem r4_spec (r : RootL) (body : List UInt8) (l l2 : List SigL) (h : RoleOk r nmRoot body l2) : Fun Tryz.prog Γh 74 [ropQ r, ropS body l, ropL l2] (.tup [.bool (enB r nmRoot body l2), .int .i64 270]) := by
  have h1 := enough_spec r [114, 111, 111, 116] body l2 h
  obtain ⟨g, ex, ks, rs⟩ := r
  refine Fun.mk 6 Tryz.func74 rfl Tryz.ntmps74 rfl rfl fun T w0 => ?_
  repeat' (first
    | ((with_reducible apply Sat.run (X := X64)); exact rfl; (first | exact True.intro | (exact phi) | skip))
    | ((with_reducible apply Sat.callR (h1)); exact rfl; exact rfl; exact rfl; kernel_rfl; (exact cnvX); exact rfl) | fail)
  (refine Sat.fin (Sat.end2 rfl rfl rfl rfl True.intro True.intro (.refl _ purX) (.refl _ purX) (by first | exact .inl rfl | exact .inr rfl) (fun _ h => h)) ?_; rfl)
theorem rotate_bad (t : TrustL) (body : List UInt8) (l : List SigL) (h : okQ body = false) : Fun Tryz.prog Γh 28 [t.v, .agg (sgdC body l)] (.tup [t.v, .int .i64 260]) := by
  have h1 := (parseRoot_walk body).weak (Γ := Γh)
  rw [h] at h1
  dsimp only [cond_false] at h1
  refine Fun.mk 6 Tryz.func28 rfl Tryz.ntmps28 rfl rfl fun T w0 => ?_
  repeat' (first
    | ((with_reducible apply Sat.run (X := X64)); exact rfl; (first | exact True.intro | (exact phi) | skip))
    | ((with_reducible apply Sat.cond_t); exact rfl)
    | ((with_reducible apply Sat.call (h1)); exact rfl; exact rfl; kernel_rfl; (exact cnvX); exact rfl) | fail)
  exact Sat.fin (Sat.end2 rfl rfl rfl rfl True.intro True.intro (.refl _ (pure_trust t)) (.refl _ trivial) (by first | exact .inl rfl | exact .inr rfl) (fun _ h => h)) rfl
theorem rotate_ok (t : TrustL) (body : List UInt8) (l : List SigL) (h : okQ body = true) (hg : t.root.gen ≤ 1000000) (hg0 : 0 ≤ t.root.gen) (hl : l.length ≤ 1000000) (hk : ∀ i, i < l.length → (l.getD i sig0).key ≤ 1000000) (hro : RoleOk t.root nmRoot body l) (hro2 : RoleOk (parseQ body) nmRoot body (latS l l.length)) : Fun Tryz.prog Γh 28 [t.v, .agg (sgdC body l)] (.tup [(rotT t body l).v, .int .i64 (rotE t body l)]) := by
  have h1 := (parseRoot_walk body).weak (Γ := Γh)
  rw [h] at h1
  dsimp only [cond_true] at h1
  have k1 := r1_spec t (parseQ body) hg hg0
  have k2 := r2_spec t (parseQ body)
  have k3 := r3_spec t body l hro
  have k4 := r4_spec (parseQ body) body l (latS l l.length) hro2
  have hres : (decide ((parseQ body).gen = t.root.gen + 1) = false ∧ rotE t body l = 274 ∧ rotT t body l = t) ∨ (decide ((parseQ body).gen = t.root.gen + 1) = true ∧ decide (t.now ≤ (parseQ body).expiry) = false ∧ rotE t body l = 271 ∧ rotT t body l = t) ∨
      (decide ((parseQ body).gen = t.root.gen + 1) = true ∧ decide (t.now ≤ (parseQ body).expiry) = true ∧ enB t.root nmRoot body l = false ∧ rotE t body l = 270 ∧ rotT t body l = t) ∨ (decide ((parseQ body).gen = t.root.gen + 1) = true ∧ decide (t.now ≤ (parseQ body).expiry) = true ∧ enB t.root nmRoot body l = true ∧ enB (parseQ body) nmRoot body (latS l l.length) = false ∧ rotE t body l = 270 ∧ rotT t body l = t) ∨
      (decide ((parseQ body).gen = t.root.gen + 1) = true ∧ decide (t.now ≤ (parseQ body).expiry) = true ∧ enB t.root nmRoot body l = true ∧ enB (parseQ body) nmRoot body (latS l l.length) = true ∧ rotE t body l = 0 ∧ rotT t body l = ⟨parseQ body, t.floor, t.gone, t.now⟩) := by
    unfold rotT rotE
    simp only [h, Bool.true_eq_false, if_false]
    generalize enB t.root nmRoot body l = B3
    generalize enB (parseQ body) nmRoot body (latS l l.length) = B4
    by_cases c1 : (parseQ body).gen = t.root.gen + 1
    · by_cases c2 : t.now ≤ (parseQ body).expiry
      · cases B3 with
        | false => exact .inr (.inr (.inl (by simp [c1, c2])))
        | true => cases B4 with
          | false => exact .inr (.inr (.inr (.inl (by simp [c1, c2]))))
          | true => exact .inr (.inr (.inr (.inr (by simp [c1, c2]))))
      · exact .inr (.inl (by simp [c1, c2]))
    · exact .inl (by simp [c1])
  generalize rotE t body l = e at hres ⊢
  generalize rotT t body l = T' at hres ⊢
  generalize enB t.root nmRoot body l = B3 at k3 hres
  generalize enB (parseQ body) nmRoot body (latS l l.length) = B4 at k4 hres
  generalize parseQ body = r at h1 k1 k2 k4 hres
  clear hro hro2 h
  refine Fun.mk 6 Tryz.func28 rfl Tryz.ntmps28 rfl rfl fun T w0 => ?_
  repeat' (first
    | ((with_reducible apply Sat.run (X := X64)); exact rfl; (first | exact True.intro | (exact phi) | skip))
    | ((with_reducible apply Sat.cond_f); exact rfl)
    | ((with_reducible apply Sat.call (h1)); exact rfl; exact rfl; kernel_rfl; (exact cnvX); exact rfl) | fail)
  apply Sat.loop (α := Nat) (fun x => x ≤ l.length) (fun x => l.length - x) 0 (fun x => [(23, .int .i64 (x : Int))]) (fun x => [(4, .cells 34 [.row 5 0 4 0 (latS l x).length]), (5, .row 66 (sigsE (latS l x)))]) [] [(5, none)] 1
  · intro x; exact rfl
  · intro x; exact rfl
  · exact rfl
  · exact rfl
  · ((repeat' (first | exact AllP.nil | with_reducible refine AllP.cons ?_ ?_)) <;> first | exact rfl | exact trivial | exact Int.natCast_add_one _ | (intro j _; simp [pureL, pureS, pureE]; done) | exact ⟨rfl, rfl, rfl, rfl⟩)
  · omega
  intro x hx
  have hle := latS_len l x
  by_cases hx2 : x < l.length
  · have hc : (x : Int) < (l.length : Int) := by omega
    have hkx := hk x hx2
    have es : latS l (x + 1) = latS l x ++ if decide (8 ≤ (l.getD x sig0).key) = true then [⟨(l.getD x sig0).key - 8, (l.getD x sig0).ch⟩] else [] := rfl
    cases hB : decide (8 ≤ (l.getD x sig0).key) with
    | true =>
      rw [hB, if_pos rfl] at es
      have hB2 : 8 ≤ (l.getD x sig0).key := of_decide_eq_true hB
      have hB3 : inR IntKind.i64 ((l.getD (x : Int).toNat sig0).key - 8) := by rw [Int.toNat_natCast]; exact inR_i64 (by omega) (by omega)
      generalize latS l x = L at hle es ⊢
      repeat' (first
        | ((with_reducible apply Sat.run (X := X64)); exact rfl; (first | exact True.intro | (exact phi) | skip))
        | ((with_reducible apply Sat.cond_pt); exact rfl; (try dsimp only [V.EV.sub, V.EV.len]); first | assumption | omega) | fail)
      refine Sat.back (x + 1) [(5, some 8)] rfl ?_ (by omega) (by omega)
      rw [es]
      ((repeat' (first | exact AllP.nil | with_reducible refine AllP.cons ?_ ?_)) <;> first | exact rfl | exact trivial | exact Int.natCast_add_one _ | (intro j _; simp [pureL, pureS, pureE]; done) | exact ⟨rfl, rfl, rfl, rfl⟩ | exact snocE (fun s : SigL => s.v) sig0 L ⟨(l.getD x sig0).key - 8, (l.getD x sig0).ch⟩ | exact snocP (fun s : SigL => s.v) sig_pure sig0 L ⟨(l.getD x sig0).key - 8, (l.getD x sig0).ch⟩ | (simp; done) | exact ⟨rfl, rfl, rfl, (by simp [EV.len, EV.sub])⟩)
    | false =>
      rw [hB] at es
      simp only [Bool.false_eq_true, if_false, List.append_nil] at es
      have hB2 : ¬ 8 ≤ (l.getD x sig0).key := of_decide_eq_false hB
      generalize latS l x = L at hle es ⊢
      repeat' (first
        | ((with_reducible apply Sat.run (X := X64)); exact rfl; (first | exact True.intro | (exact phi) | skip))
        | ((with_reducible apply Sat.cond_pt); exact rfl; (try dsimp only [V.EV.sub, V.EV.len]); first | assumption | omega)
        | ((with_reducible apply Sat.cond_pf); exact rfl; (try dsimp only [V.EV.sub, V.EV.len]); first | assumption | omega) | fail)
      refine Sat.back (x + 1) [(5, some 5)] rfl ?_ (by omega) (by omega)
      rw [es]
      ((repeat' (first | exact AllP.nil | with_reducible refine AllP.cons ?_ ?_)) <;> first | exact rfl | exact trivial | exact Int.natCast_add_one _ | (intro j _; simp [pureL, pureS, pureE]; done) | exact ⟨rfl, rfl, rfl, rfl⟩)
  · obtain rfl : x = l.length := by omega
    generalize latS l l.length = L at k4 hle ⊢
    ((with_reducible apply Sat.run (X := X64)); exact rfl; (first | exact True.intro | (exact phi)))
    ((with_reducible apply Sat.cond_pf); exact rfl; (dsimp only [V.EV.sub, V.EV.len]; omega))
    refine Sat.freezeC true 5 rfl ?_ ?_
    · (repeat' (first | exact AllP.nil | with_reducible refine AllP.cons ?_ ?_)) <;> first | exact rfl | exact trivial | exact .inl ⟨rfl, rfl, rfl⟩ | (intro _ _; exact sig_pure _) | (intro _ _; simp [pureL, pureS, pureE]; done) | (intro _ _; exact rfl) | (intro _; exact rfl) | (intro _; exact trivial) | (intro _; exact .inl ⟨rfl, rfl, rfl⟩) | (intro _ _ _; exact sig_pure _) | exact ⟨rfl, rfl, rfl, rfl⟩ | (intro _; exact ⟨rfl, rfl, rfl, rfl⟩)
    rcases hres with ⟨c1, rfl, rfl⟩ | ⟨c1, c2, rfl, rfl⟩ | ⟨c1, c2, rfl, rfl, rfl⟩ | ⟨c1, c2, rfl, rfl, rfl, rfl⟩ | ⟨c1, c2, rfl, rfl, rfl, rfl⟩
    · rw [c1] at k1
      repeat' (first
        | ((with_reducible apply Sat.run (X := X64)); exact rfl; (first | exact True.intro | (exact phi) | skip))
        | ((with_reducible apply Sat.cond_t); exact rfl)
        | ((with_reducible apply Sat.cond_f); exact rfl)
        | ((with_reducible apply Sat.inl 7 [] Tryz.func69 Tryz.ntmps69); exact rfl; exact rfl; kernel_rfl; exact rfl; exact rfl; exact rfl; exact rfl; ((repeat' (first | exact AllP.nil | with_reducible refine AllP.cons ?_ ?_)) <;> (first | exact True.intro | exact purX)); intro _ _)
        | ((with_reducible apply Sat.out1 (C := ⟨_, _, _, _, _, _, _, _, _⟩)); exact rfl; (first | exact .inl rfl | exact .inr rfl); exact rfl; (exact phi); exact rfl)
        | (with_reducible apply Sat.unroll 40)
        | ((with_reducible apply Sat.callR (k1)); exact rfl; exact rfl; exact rfl; kernel_rfl; (exact cnvX); exact rfl) | fail)
      exact Sat.fin (Sat.end2 rfl rfl rfl rfl True.intro True.intro (.refl _ (pure_trust T')) (.refl _ trivial) (by first | exact .inl rfl | exact .inr rfl) (fun _ h => h)) rfl
    · rw [c1] at k1
      rw [c2] at k2
      repeat' (first
        | ((with_reducible apply Sat.run (X := X64)); exact rfl; (first | exact True.intro | (exact phi) | skip))
        | ((with_reducible apply Sat.cond_t); exact rfl)
        | ((with_reducible apply Sat.cond_f); exact rfl)
        | ((with_reducible apply Sat.inl 7 [] Tryz.func69 Tryz.ntmps69); exact rfl; exact rfl; kernel_rfl; exact rfl; exact rfl; exact rfl; exact rfl; ((repeat' (first | exact AllP.nil | with_reducible refine AllP.cons ?_ ?_)) <;> (first | exact True.intro | exact purX)); intro _ _)
        | ((with_reducible apply Sat.out1 (C := ⟨_, _, _, _, _, _, _, _, _⟩)); exact rfl; (first | exact .inl rfl | exact .inr rfl); exact rfl; (exact phi); exact rfl)
        | (with_reducible apply Sat.unroll 40)
        | (with_reducible apply Sat.again)
        | ((with_reducible apply Sat.callR (k1)); exact rfl; exact rfl; exact rfl; kernel_rfl; (exact cnvX); exact rfl)
        | ((with_reducible apply Sat.callR (k2)); exact rfl; exact rfl; exact rfl; kernel_rfl; (exact cnvX); exact rfl) | fail)
      exact Sat.fin (Sat.end2 rfl rfl rfl rfl True.intro True.intro (.refl _ (pure_trust T')) (.refl _ trivial) (by first | exact .inl rfl | exact .inr rfl) (fun _ h => h)) rfl
    · rw [c1] at k1
      rw [c2] at k2
      repeat' (first
        | ((with_reducible apply Sat.run (X := X64)); exact rfl; (first | exact True.intro | (exact phi) | skip))
        | ((with_reducible apply Sat.cond_t); exact rfl)
        | ((with_reducible apply Sat.cond_f); exact rfl)
        | ((with_reducible apply Sat.inl 7 [] Tryz.func69 Tryz.ntmps69); exact rfl; exact rfl; kernel_rfl; exact rfl; exact rfl; exact rfl; exact rfl; ((repeat' (first | exact AllP.nil | with_reducible refine AllP.cons ?_ ?_)) <;> (first | exact True.intro | exact purX)); intro _ _)
        | ((with_reducible apply Sat.out1 (C := ⟨_, _, _, _, _, _, _, _, _⟩)); exact rfl; (first | exact .inl rfl | exact .inr rfl); exact rfl; (exact phi); exact rfl)
        | (with_reducible apply Sat.unroll 40)
        | (with_reducible apply Sat.again)
        | ((with_reducible apply Sat.callR (k1)); exact rfl; exact rfl; exact rfl; kernel_rfl; (exact cnvX); exact rfl)
        | ((with_reducible apply Sat.callR (k2)); exact rfl; exact rfl; exact rfl; kernel_rfl; (exact cnvX); exact rfl)
        | ((with_reducible apply Sat.callR (k3)); exact rfl; exact rfl; exact rfl; kernel_rfl; (exact cnvX); exact rfl) | fail)
      exact Sat.fin (Sat.end2 rfl rfl rfl rfl True.intro True.intro (.refl _ (pure_trust T')) (.refl _ trivial) (by first | exact .inl rfl | exact .inr rfl) (fun _ h => h)) rfl
    · rw [c1] at k1
      rw [c2] at k2
      repeat' (first
        | ((with_reducible apply Sat.run (X := X64)); exact rfl; (first | exact True.intro | (exact phi) | skip))
        | ((with_reducible apply Sat.cond_t); exact rfl)
        | ((with_reducible apply Sat.cond_f); exact rfl)
        | ((with_reducible apply Sat.inl 7 [] Tryz.func69 Tryz.ntmps69); exact rfl; exact rfl; kernel_rfl; exact rfl; exact rfl; exact rfl; exact rfl; ((repeat' (first | exact AllP.nil | with_reducible refine AllP.cons ?_ ?_)) <;> (first | exact True.intro | exact purX)); intro _ _)
        | ((with_reducible apply Sat.out1 (C := ⟨_, _, _, _, _, _, _, _, _⟩)); exact rfl; (first | exact .inl rfl | exact .inr rfl); exact rfl; (exact phi); exact rfl)
        | (with_reducible apply Sat.unroll 40)
        | (with_reducible apply Sat.again)
        | ((with_reducible apply Sat.callR (k1)); exact rfl; exact rfl; exact rfl; kernel_rfl; (exact cnvX); exact rfl)
        | ((with_reducible apply Sat.callR (k2)); exact rfl; exact rfl; exact rfl; kernel_rfl; (exact cnvX); exact rfl)
        | ((with_reducible apply Sat.callR (k3)); exact rfl; exact rfl; exact rfl; kernel_rfl; (exact cnvX); exact rfl)
        | ((with_reducible apply Sat.callR (k4)); exact rfl; exact rfl; exact rfl; kernel_rfl; (exact cnvX); exact rfl) | fail)
      exact Sat.fin (Sat.end2 rfl rfl rfl rfl True.intro True.intro (.refl _ (pure_trust T')) (.refl _ trivial) (by first | exact .inl rfl | exact .inr rfl) (fun _ h => h)) rfl
    · rw [c1] at k1
      rw [c2] at k2
      repeat' (first
        | ((with_reducible apply Sat.run (X := X64)); exact rfl; (first | exact True.intro | (exact phi) | skip))
        | ((with_reducible apply Sat.cond_t); exact rfl)
        | ((with_reducible apply Sat.cond_f); exact rfl)
        | ((with_reducible apply Sat.inl 7 [] Tryz.func69 Tryz.ntmps69); exact rfl; exact rfl; kernel_rfl; exact rfl; exact rfl; exact rfl; exact rfl; ((repeat' (first | exact AllP.nil | with_reducible refine AllP.cons ?_ ?_)) <;> (first | exact True.intro | exact purX)); intro _ _)
        | ((with_reducible apply Sat.out1 (C := ⟨_, _, _, _, _, _, _, _, _⟩)); exact rfl; (first | exact .inl rfl | exact .inr rfl); exact rfl; (exact phi); exact rfl)
        | (with_reducible apply Sat.unroll 40)
        | (with_reducible apply Sat.again)
        | ((with_reducible apply Sat.callR (k1)); exact rfl; exact rfl; exact rfl; kernel_rfl; (exact cnvX); exact rfl)
        | ((with_reducible apply Sat.callR (k2)); exact rfl; exact rfl; exact rfl; kernel_rfl; (exact cnvX); exact rfl)
        | ((with_reducible apply Sat.callR (k3)); exact rfl; exact rfl; exact rfl; kernel_rfl; (exact cnvX); exact rfl)
        | ((with_reducible apply Sat.callR (k4)); exact rfl; exact rfl; exact rfl; kernel_rfl; (exact cnvX); exact rfl) | fail)
      exact Sat.fin (Sat.end2 rfl rfl rfl rfl True.intro True.intro (.refl _ (pure_trust ⟨r, t.floor, t.gone, t.now⟩)) (.refl _ trivial) (by first | exact .inl rfl | exact .inr rfl) (fun _ h => h)) rfl
theorem rotate_spec (t : TrustL) (body : List UInt8) (l : List SigL) (hg : t.root.gen ≤ 1000000) (hg0 : 0 ≤ t.root.gen) (hl : l.length ≤ 1000000) (hk : ∀ i, i < l.length → (l.getD i sig0).key ≤ 1000000) (hro : okQ body = true → RoleOk t.root nmRoot body l) (hro2 : okQ body = true → RoleOk (parseQ body) nmRoot body (latS l l.length)) : Fun Tryz.prog Γh 28 [t.v, .agg (sgdC body l)] (.tup [(rotT t body l).v, .int .i64 (rotE t body l)]) := by
  cases h : okQ body with
  | false =>
    have e : rotE t body l = 260 := by unfold rotE; rw [if_pos h]
    have e1 : rotT t body l = t := by unfold rotT; rw [e, if_neg (by decide)]
    rw [e, e1]
    exact rotate_bad t body l h
  | true => exact rotate_ok t body l h hg hg0 hl hk (hro h) (hro2 h)
end Go.Proofs.YtokaegeediokoaaGreatDoor
end
section
namespace Go.Proofs.YtokaegeediokoaaGreatDoor
open Go.RowKit V
set_option maxRecDepth 100000
set_option maxHeartbeats 8000000
set_option linter.unusedSimpArgs false
section
variable {C : V.Ctx} {Q0 : Exit → Act → World → Prop} {F F' : V.Tr} {M M' : V.Mem} {ids : List Nat} {k : List V.Kont} {e : V.Ex}
theorem V.Sat.nestX {φ : List Prop} (X Y : Nat) (g : Nat → List SV) (hz : nst C.wide C.pins ids X Y g F M = some ⟨F', M', φ⟩) (hφ : AllP φ) (hn : Sat C Q0 (.ext e F' M' ids k)) : Sat C Q0 (.ext e F M ids k) := by
  intro U E a w _ hst
  obtain ⟨U', E', h1, h2⟩ := nst_ok hz hφ hst
  exact hn U' E' a w h1 h2
theorem V.Sat.rerow {pos : Pos} {id : Nat} {ty : TypeId} {ev ev' : EV} (hf : find M id = some (.row ty ev)) (hl : ev'.len = ev.len) (hz : ev'.sz = ev.sz) (hI : ∀ E T w i cs, i < ev.len → Items E T w (ev.items i) cs → Items E T w (ev'.items i) cs) (hu : upd M id (.row ty ev') = some M') (h : Sat C Q0 (pos.at F M' ids)) : Sat C Q0 (pos.at F M ids) := by
  have key : ∀ U E a w, St C F M U E a w → St C F M' U E a w := fun U E a w hst => by
    have hfu := find_upd hu
    have hsome : ∀ j, (find M' j).isSome = true → (find M j).isSome = true := fun j hj => by
      rw [hfu] at hj
      split at hj
      · rename_i e; rw [e, hf]; rfl
      · exact hj
    have hT : ∀ b, b < w.heap.size → trk C.T0 M' E b → trk C.T0 M E b := by
      rintro b _ (⟨j, B, q1, q2⟩ | q)
      · obtain ⟨B', hB'⟩ := Option.isSome_iff_exists.1 (hsome j (by rw [q1]; rfl))
        exact .inl ⟨j, B', hB', q2⟩
      · exact .inr q
    refine hst.go (fun _ _ h => h) hT (Chg.refl _ w) rfl rfl rfl ⟨fun j B hj => ?_, fun j j' b h1 h2 => hst.mem.inj j j' b (hsome j h1) (hsome j' h2)⟩ (fun j b h1 h2 => hst.own j b (hsome j h1) h2) hst.fresh
    rw [hfu] at hj
    split at hj
    · rename_i e
      subst e
      cases hj
      rcases hst.mem.blk _ _ hf with ⟨b, q1, q2, cs, c, q3, q4, q5, q6, q7⟩ | ⟨q0, t, e, q2, q3⟩
      · refine .inl ⟨b, q1, q2, cs, c, q3, ?_, ?_, ?_, ?_⟩
        · rw [hl, hz]; exact q4
        · rw [hl, hz]; exact q5
        · rw [hl, hz]; exact q6
        · rw [hl]; exact fun i hi => hI _ _ _ _ _ hi ((q7 i hi).mono (fun _ _ h => h) hT (Chg.refl _ w))
      · cases q2
        exact .inr ⟨q0, _, _, rfl, hl.trans q3⟩
    · rcases hst.mem.blk _ _ hj with ⟨b, q1, q2, q3⟩ | q
      · exact .inl ⟨b, q1, q2, q3.mono (fun _ _ h => h) hT (Chg.refl _ w) rfl⟩
      · exact .inr q
  cases pos with
  | code c k => exact fun U E a w hs hst => h U E a w hs (key U E a w hst)
  | reg full rest k => exact fun U E a w hs hst => h U E a w hs (key U E a w hst)
  | ext e k => exact fun U E a w hs hst => h U E a w hs (key U E a w hst)
end
@[reducible] def accC (t : TrustL) (r : Rel) (e : Int) : List SV := [.int .i64 t.root.gen, .int .i64 t.root.expiry, .ro (keysE t.root.keys), .ro (rolesE t.root.roles), .int .i64 t.floor, .ro (.ints .i64 t.gone), .int .i64 t.now,
  .int .i64 r.version, .int .i64 r.floor, .int .i64 r.expiry, .int .i64 r.size, .arr 32 (.u8 r.image), .int .i64 r.chunks, .arr 32 (.u8 r.tree), .ro (.ints .i64 r.gone), .ro (partsE r.parts), .int .i64 e]
theorem pure_acc (t : TrustL) (r : Rel) (e : Int) : pureS (.agg (accC t r e)) := ⟨trivial, trivial, fun _ _ => ⟨trivial, trivial⟩, fun _ _ => ⟨trivial, trivial, trivial, trivial⟩, trivial, trivial, trivial, trivial, trivial, trivial, trivial, trivial, trivial, trivial, trivial, fun _ _ => ⟨trivial, trivial, trivial⟩, trivial, trivial⟩
attribute [local irreducible] V.Sat V.DSat
theorem laccept_spec (t : TrustL) (body : List UInt8) (l : List SigL) (hro : okP body = true → RoleOk t.root nmRel body l) (hg : t.gone.length ≤ 1000) (hg2 : (parseP body).gone.length ≤ 1000) : Fun Tryz.prog Γh 17 [t.v, .agg (sgdC body l)] (.agg (accC (accT t body l) (accR t body l) (accE t body l))) := by
  have h1 := accept_spec t body l hro hg hg2
  clear hro hg hg2
  generalize accT t body l = t2 at h1 ⊢
  generalize accR t body l = r2 at h1 ⊢
  generalize accE t body l = e2 at h1 ⊢
  refine Fun.mk 6 Tryz.func17 rfl Tryz.ntmps17 rfl rfl fun T w0 => ?_
  repeat' (first
    | ((with_reducible apply Sat.run (X := X64)); exact rfl; (first | exact True.intro | (exact phi) | skip))
    | ((with_reducible apply Sat.call (h1)); exact rfl; exact rfl; kernel_rfl; (exact cnvX); exact rfl) | fail)
  exact Sat.fin (Sat.end1 rfl rfl rfl True.intro (.refl _ (pure_acc t2 r2 e2)) (by first | exact .inl rfl | exact .inr rfl) (fun _ h => h)) rfl
def plainL : RootL := ⟨3, 10, [1 :: List.replicate 31 0, 2 :: List.replicate 31 0], [⟨nmRel, [0, 1], 1⟩, ⟨nmRoot, [0], 1⟩]⟩
def plainR (i : Nat) : List SV := [.str (plainL.roles.getD i role0).name, .ro (.ints .i64 (plainL.roles.getD i role0).keys), .int .i64 (plainL.roles.getD i role0).need]
theorem plain_spec {Γ : Glob} : Fun Tryz.prog Γ 32 [] plainL.v := by
  refine Fun.mk 6 Tryz.func32 rfl Tryz.ntmps32 rfl rfl fun T w0 => ?_
  repeat' (first
    | ((with_reducible apply Sat.run (X := X64)); exact rfl; (first | exact True.intro | (exact phi) | skip)) | fail)
  refine Sat.rerow (pos := .ext _ _) (id := 1) (ty := 40) (ev' := keysE plainL.keys) rfl rfl rfl (fun E T w i cs hi h => ?_) rfl ?_
  · have hi : i < 2 := hi
    rcases i with _ | _ | i
    · exact items_bytes (1 :: List.replicate 31 0) [] cs h
    · exact items_bytes (2 :: List.replicate 31 0) [] cs h
    · omega
  refine Sat.nestX 2 4 (nthL [[SV.str nmRel, .ro (.ints .i64 [0, 1]), .int .i64 1], [.str nmRoot, SV.row 3 0 (0 + 1) 0 1, .int .i64 1]]) rfl ?_ ?_
  · (repeat' (first | exact AllP.nil | with_reducible refine AllP.cons ?_ ?_)) <;> first | exact rfl | exact trivial | exact ⟨rfl, rfl, rfl, rfl⟩ | (intro _ _; simp [pureL, pureS, pureE]; done) | exact .inl ⟨rfl, rfl, rfl⟩ | skip
    intro i hi
    rcases i with _ | _ | i
    · refine ⟨_, rfl, ?_⟩
      simp only [List.cons_append, List.nil_append]
      (repeat' (first | exact AllP.nil | with_reducible refine AllP.cons ?_ ?_)) <;> first | exact rfl | exact trivial | (simp [EV.len, EV.sub, EV.sz, pureE, plainL, role0]; done)
    · refine ⟨_, rfl, ?_⟩
      simp only [List.cons_append, List.nil_append]
      (repeat' (first | exact AllP.nil | with_reducible refine AllP.cons ?_ ?_)) <;> first | exact rfl | exact trivial | (simp [EV.len, EV.sub, EV.sz, pureE, plainL, role0]; done)
    · omega
  refine Sat.nestX 3 4 plainR rfl ?_ ?_
  · (repeat' (first | exact AllP.nil | with_reducible refine AllP.cons ?_ ?_)) <;> first | exact rfl | exact trivial | exact ⟨rfl, rfl, rfl, rfl⟩ | (intro _ _; simp [pureL, pureS, pureE]; done) | exact .inl ⟨rfl, rfl, rfl⟩ | skip
    intro i hi
    rcases i with _ | _ | i
    · refine ⟨_, rfl, ?_⟩
      simp only [List.cons_append, List.nil_append]
      (repeat' (first | exact AllP.nil | with_reducible refine AllP.cons ?_ ?_)) <;> first | exact rfl | exact trivial | (simp [EV.len, EV.sub, EV.sz, pureE, plainL, role0]; done)
    · refine ⟨_, rfl, ?_⟩
      simp only [List.cons_append, List.nil_append]
      (repeat' (first | exact AllP.nil | with_reducible refine AllP.cons ?_ ?_)) <;> first | exact rfl | exact trivial | (simp [EV.len, EV.sub, EV.sz, pureE, plainL, role0]; done)
    · omega
  refine Sat.fin (Sat.end1 rfl rfl rfl True.intro (.agg _ _ (.cons _ _ _ _ (.refl _ trivial) (.cons _ _ _ _ (.refl _ trivial) (.cons _ _ _ _ (.all _ _ _ _ _ rfl rfl rfl (fun _ _ => ⟨trivial, trivial⟩)) (.cons _ _ _ _ (.all _ _ _ _ _ rfl rfl rfl (fun _ _ => ⟨trivial, trivial, trivial, trivial⟩)) .nil))))) (by first | exact .inl rfl | exact .inr rfl) (fun _ h => h)) ?_
  rfl
end Go.Proofs.YtokaegeediokoaaGreatDoor
end
section
namespace Go.Proofs.YtokaegeediokoaaGreatDoor
open Go.RowKit V
set_option maxRecDepth 100000
set_option maxHeartbeats 8000000
set_option linter.unusedSimpArgs false
@[reducible] def w4 (a b c d : UInt8) : SV := .agg [.int .u8 (a.toNat : Int), .int .u8 (b.toNat : Int), .int .u8 (c.toNat : Int), .int .u8 (d.toNat : Int)]
attribute [local irreducible] V.Sat V.DSat
end Go.Proofs.YtokaegeediokoaaGreatDoor
end
section
namespace Go.Proofs.YtokaegeediokoaaGreatDoor
open Go.RowKit V
set_option maxRecDepth 100000
set_option maxHeartbeats 8000000
set_option linter.unusedSimpArgs false
attribute [local irreducible] V.Sat V.DSat
def hasB (l : List Int) (n : Int) : Bool := l.any fun y => decide (n = y)
end Go.Proofs.YtokaegeediokoaaGreatDoor
end
section
namespace Go.Proofs.YtokaegeediokoaaGreatDoor
open Go.RowKit V
set_option maxRecDepth 100000
set_option maxHeartbeats 8000000
set_option linter.unusedSimpArgs false
attribute [local irreducible] V.Sat V.DSat
def rootEq (a b : RootL) : Bool := decide (a.gen = b.gen ∧ a.expiry = b.expiry ∧ a.keys.length = b.keys.length ∧ a.roles.length = b.roles.length) && (decide (∀ i, i < a.keys.length → a.keys.getD i [] = b.keys.getD i []) && decide (∀ i, i < a.roles.length → (a.roles.getD i role0).name = (b.roles.getD i role0).name ∧ (a.roles.getD i role0).need = (b.roles.getD i role0).need ∧ (a.roles.getD i role0).keys = (b.roles.getD i role0).keys))
theorem same_root (a b : RootL) : Fun Tryz.prog [] 29 [a.v, b.v] (.bool (rootEq a b)) := by
  obtain ⟨g, ex, ks, rs⟩ := a
  obtain ⟨g', ex', ks', rs'⟩ := b
  show Fun Tryz.prog [] 29 [.agg [.int .i64 g, .int .i64 ex, .ro (keysE ks), .ro (rolesE rs)], .agg [.int .i64 g', .int .i64 ex', .ro (keysE ks'), .ro (rolesE rs')]] _
  refine Fun.mkF 7 Tryz.func29 rfl Tryz.ntmps29 rfl rfl fun hf T w0 => ?_
  repeat' (first
    | ((with_reducible apply Sat.run (X := X64)); exact rfl; (first | exact True.intro | (exact phi) | skip))
    | ((with_reducible apply Sat.cond); exact rfl; all_goals (intro h; (try simp only [V.EV.sub, V.EV.len, Bool.cond_true_left, Bool.cond_false_right, Bool.or_eq_true, Bool.and_eq_true, Bool.or_eq_false_iff, Bool.and_eq_false_iff, Bool.not_eq_true', Bool.not_eq_false', decide_eq_true_eq, decide_eq_false_iff_not, ne_eq] at h))) | fail)
  · have q : rootEq ⟨g, ex, ks, rs⟩ ⟨g', ex', ks', rs'⟩ = false := by
      cases hq : rootEq ⟨g, ex, ks, rs⟩ ⟨g', ex', ks', rs'⟩ with
      | false => rfl
      | true =>
        exfalso
        unfold rootEq at hq
        simp only [Bool.and_eq_true, decide_eq_true_eq] at hq
        obtain ⟨⟨q1, q2, q3, q4⟩, -⟩ := hq
        rcases h with ((h | h) | h) | h
        all_goals first | exact h q1 | exact h q2 | (have := of_decide_eq_true h; omega) | omega
    (refine Sat.fin (Sat.end1 rfl rfl rfl True.intro (.refl _ purX) (by first | exact .inl rfl | exact .inr rfl) (fun _ h => h)) ?_; (rw [q]))
  obtain ⟨⟨⟨p1, p2⟩, p3⟩, p4⟩ := h
  replace p1 := Classical.not_not.1 p1
  replace p2 := Classical.not_not.1 p2
  have p5 : ks.length = ks'.length := by
    have := of_decide_eq_false p3
    omega
  have p6 : rs.length = rs'.length := by
    have := of_decide_eq_false p4
    omega
  clear p3 p4
  have hk : ks.length ≤ 9223372036854775807 := hf.1.2.2.1.1
  have hr : rs.length ≤ 9223372036854775807 := hf.1.2.2.2.1.1
  apply Sat.loop (α := Nat) (fun x => x ≤ ks.length ∧ ∀ i, i < x → ks.getD i [] = ks'.getD i []) (fun x => ks.length - x) 0 (fun x => [(5, .int .i64 (x : Int))]) (fun _ => []) [] [] 0
  · intro x; exact rfl
  · intro x; exact rfl
  · exact rfl
  · exact rfl
  · (repeat' (first | exact AllP.nil | with_reducible refine AllP.cons ?_ ?_)) <;> first | with_reducible exact rfl | exact Int.natCast_add_one _ | exact rfl | exact trivial | (intro _ _; simp [pureL, pureS, pureE]; done) | exact ⟨rfl, rfl, rfl, rfl⟩
  · exact ⟨Nat.zero_le _, fun i hi => by omega⟩
  · rintro x ⟨x1, x2⟩
    repeat' (first
      | ((with_reducible apply Sat.run (X := X64)); exact rfl; (first | exact True.intro | (exact phi) | skip))
      | ((with_reducible apply Sat.drawn); kernel_rfl)
      | ((with_reducible apply DSat.run (X := X64)); exact rfl; (first | exact True.intro | (exact phi) | skip))
      | ((with_reducible apply DSat.fin); kernel_rfl)
      | ((with_reducible apply Sat.cond_p); exact rfl; all_goals (intro h; (try simp only [V.EV.sub, V.EV.len] at h)))
      | ((with_reducible apply Sat.cond); exact rfl; all_goals (intro h; (try simp only [V.EV.sub, V.EV.len, Bool.cond_true_left, Bool.cond_false_right, Bool.or_eq_true, Bool.and_eq_true, Bool.or_eq_false_iff, Bool.and_eq_false_iff, Bool.not_eq_true', Bool.not_eq_false', decide_eq_true_eq, decide_eq_false_iff_not, ne_eq] at h))) | fail)
    · have hx : x < ks.length := by omega
      have q : rootEq ⟨g, ex, ks, rs⟩ ⟨g', ex', ks', rs'⟩ = false := by
        cases hq : rootEq ⟨g, ex, ks, rs⟩ ⟨g', ex', ks', rs'⟩ with
        | false => rfl
        | true =>
          exfalso
          unfold rootEq at hq
          simp only [Bool.and_eq_true, decide_eq_true_eq] at hq
          exact h (hq.2.1 x hx)
      (refine Sat.fin (Sat.end1 rfl rfl rfl True.intro (.refl _ purX) (by first | exact .inl rfl | exact .inr rfl) (fun _ h => h)) ?_; (rw [q]))
    · refine Sat.back (x + 1) [] rfl ?_ ?_ ?_
      · (repeat' (first | exact AllP.nil | with_reducible refine AllP.cons ?_ ?_)) <;> first | with_reducible exact rfl | exact Int.natCast_add_one _ | exact rfl | exact trivial | (intro _ _; simp [pureL, pureS, pureE]; done) | exact ⟨rfl, rfl, rfl, rfl⟩
      · refine ⟨by omega, fun i hi => ?_⟩
        rcases Nat.lt_succ_iff_lt_or_eq.1 hi with h1 | rfl
        · exact x2 i h1
        · exact h
      · omega
    have e2 : ∀ i, i < ks.length → ks.getD i [] = ks'.getD i [] := fun i hi => x2 i (by omega)
    apply Sat.loop (α := Nat) (fun x => x ≤ rs.length ∧ ∀ i, i < x → (rs.getD i role0).name = (rs'.getD i role0).name ∧ (rs.getD i role0).need = (rs'.getD i role0).need ∧ (rs.getD i role0).keys = (rs'.getD i role0).keys) (fun x => rs.length - x) 0 (fun x => [(6, .int .i64 (x : Int))]) (fun _ => []) [] [] 0
    · intro x; exact rfl
    · intro x; exact rfl
    · exact rfl
    · exact rfl
    · (repeat' (first | exact AllP.nil | with_reducible refine AllP.cons ?_ ?_)) <;> first | with_reducible exact rfl | exact Int.natCast_add_one _ | exact rfl | exact trivial | (intro _ _; simp [pureL, pureS, pureE]; done) | exact ⟨rfl, rfl, rfl, rfl⟩
    · exact ⟨Nat.zero_le _, fun i hi => by omega⟩
    · rintro y ⟨y1, y2⟩
      have hi := ints_ref (rs.getD (y : Int).toNat role0).keys (rs'.getD (y : Int).toNat role0).keys
      repeat' (first
        | ((with_reducible apply Sat.run (X := X64)); exact rfl; (first | exact True.intro | (exact phi) | skip))
        | ((with_reducible apply Sat.drawn); kernel_rfl)
        | ((with_reducible apply DSat.run (X := X64)); exact rfl; (first | exact True.intro | (exact phi) | skip))
        | ((with_reducible apply DSat.fin); kernel_rfl)
        | ((with_reducible apply Sat.cond_p); exact rfl; all_goals (intro h; (try simp only [V.EV.sub, V.EV.len] at h)))
        | ((with_reducible apply Sat.cond); exact rfl; all_goals (intro h; (try simp only [V.EV.sub, V.EV.len, Bool.cond_true_left, Bool.cond_false_right, Bool.or_eq_true, Bool.and_eq_true, Bool.or_eq_false_iff, Bool.and_eq_false_iff, Bool.not_eq_true', Bool.not_eq_false', decide_eq_true_eq, decide_eq_false_iff_not, ne_eq] at h)))
        | ((with_reducible apply Sat.callG1 (hi)); exact rfl; exact rfl; exact rfl; exact rfl; kernel_rfl; (intro hG; (exact cnvX)); exact rfl) | fail)
      · have hy : y < rs.length := by omega
        have q : rootEq ⟨g, ex, ks, rs⟩ ⟨g', ex', ks', rs'⟩ = false := by
          cases hq : rootEq ⟨g, ex, ks, rs⟩ ⟨g', ex', ks', rs'⟩ with
          | false => rfl
          | true =>
            exfalso
            unfold rootEq at hq
            simp only [Bool.and_eq_true, decide_eq_true_eq] at hq
            obtain ⟨r1, r2, r3⟩ := hq.2.2 y hy
            rcases h with (h | h) | h
            · exact h r1
            · exact h r2
            · exact h r3
        (refine Sat.fin (Sat.end1 rfl rfl rfl True.intro (.refl _ purX) (by first | exact .inl rfl | exact .inr rfl) (fun _ h => h)) ?_; (rw [q]))
      · refine Sat.back (y + 1) [] rfl ?_ ?_ ?_
        · (repeat' (first | exact AllP.nil | with_reducible refine AllP.cons ?_ ?_)) <;> first | with_reducible exact rfl | exact Int.natCast_add_one _ | exact rfl | exact trivial | (intro _ _; simp [pureL, pureS, pureE]; done) | exact ⟨rfl, rfl, rfl, rfl⟩
        · refine ⟨by omega, fun i hi => ?_⟩
          rcases Nat.lt_succ_iff_lt_or_eq.1 hi with h1 | rfl
          · exact y2 i h1
          · exact ⟨Classical.not_not.1 h.1.1, Classical.not_not.1 h.1.2, h.2⟩
        · omega
      · (refine Sat.fin (Sat.end1 rfl rfl rfl True.intro (.refl _ purX) (by first | exact .inl rfl | exact .inr rfl) (fun _ h => h)) ?_; (refine congrArg SV.bool (Eq.trans (show rootEq ⟨g, ex, ks, rs⟩ ⟨g', ex', ks', rs'⟩ = true by unfold rootEq; rw [decide_eq_true (p := ∀ i, i < ks.length → ks.getD i [] = ks'.getD i []) e2, decide_eq_true (p := ∀ i, i < rs.length → (rs.getD i role0).name = (rs'.getD i role0).name ∧ (rs.getD i role0).need = (rs'.getD i role0).need ∧ (rs.getD i role0).keys = (rs'.getD i role0).keys) (fun i hi => y2 i (by omega)), decide_eq_true ⟨p1, p2, p5, p6⟩]; rfl) rfl)))
theorem rootEq_iff (a b : RootL) : rootEq a b = true ↔ a = b := by
  constructor
  · intro h
    unfold rootEq at h
    simp only [Bool.and_eq_true, decide_eq_true_eq] at h
    obtain ⟨⟨q1, q2, q3, q4⟩, q5, q6⟩ := h
    obtain ⟨g, ex, ks, rs⟩ := a
    obtain ⟨g', ex', ks', rs'⟩ := b
    dsimp only at q1 q2 q3 q4 q5 q6
    have e1 : ks = ks' := by
      refine List.ext_getElem q3 fun i h3 h4 => ?_
      have := q5 i h3
      simpa only [List.getD_eq_getElem?_getD, List.getElem?_eq_getElem h3, List.getElem?_eq_getElem h4, Option.getD_some] using this
    have e2 : rs = rs' := by
      refine List.ext_getElem q4 fun i h3 h4 => ?_
      have := q6 i h3
      simp only [List.getD_eq_getElem?_getD, List.getElem?_eq_getElem h3, List.getElem?_eq_getElem h4, Option.getD_some] at this
      cases hp : rs[i] with
      | mk n1 k1 m1 =>
        cases hq : rs'[i] with
        | mk n2 k2 m2 =>
          rw [hp, hq] at this
          obtain ⟨r1, r2, r3⟩ := this
          dsimp only at r1 r2 r3
          rw [r1, r2, r3]
    rw [q1, q2, e1, e2]
  · rintro rfl
    unfold rootEq
    simp
end Go.Proofs.YtokaegeediokoaaGreatDoor
end
section
namespace Go.Proofs.YtokaegeediokoaaGreatDoor
open Go.RowKit V
set_option maxRecDepth 100000
set_option maxHeartbeats 8000000
set_option linter.unusedSimpArgs false
attribute [local irreducible] V.Sat V.DSat
end Go.Proofs.YtokaegeediokoaaGreatDoor
end
section
namespace Go.Proofs.YtokaegeediokoaaGreatDoor
open Go.RowKit V
end Go.Proofs.YtokaegeediokoaaGreatDoor
end
section
namespace Go.Proofs.YtokaegeediokoaaGreatDoor
open Go.RowKit V
set_option maxRecDepth 100000
set_option maxHeartbeats 8000000
set_option linter.unusedSimpArgs false
attribute [local irreducible] V.Sat V.DSat
theorem ints27 {Γ : Glob} (l m : List Int) : Fun Tryz.prog Γ 26 [.ro (.ints .i64 l), .ro (.ints .i64 m)] (.bool (decide (l = m))) := by
  refine Fun.mkF 6 Tryz.func26 rfl Tryz.ntmps26 rfl rfl fun hf T w0 => ?_
  obtain ⟨⟨hl, _⟩, ⟨hm, _⟩, _⟩ := hf
  dsimp only [EV.len] at hl hm
  unfold okLen at hl hm
  repeat' (first
    | ((with_reducible apply Sat.run (X := X64)); exact rfl; (first | exact True.intro | (exact phi) | skip))
    | ((with_reducible apply Sat.cond_p); exact rfl; all_goals (intro h; (try simp only [V.EV.sub, V.EV.len] at h))) | fail)
  · (refine Sat.fin (Sat.end1 rfl rfl rfl True.intro (.refl _ purX) (by first | exact .inl rfl | exact .inr rfl) (fun _ h => h)) ?_; (refine congrArg SV.bool ?_; exact decide_eq_false (fun e => by subst e; exact h rfl)))
  have hlm : l.length = m.length := by simp [EV.len] at h; omega
  apply Sat.loop (α := Nat) (fun x => x ≤ l.length ∧ ∀ i, i < x → l.getD i 0 = m.getD i 0) (fun x => l.length - x) 0 (fun x => [(5, .int .i64 (x : Int))]) (fun _ => []) [] [] 0
  · intro x; exact rfl
  · intro x; exact rfl
  · exact rfl
  · exact rfl
  · (repeat' (first | exact AllP.nil | with_reducible refine AllP.cons ?_ ?_)) <;> first | exact rfl | exact trivial
  · exact ⟨Nat.zero_le _, fun i hi => by omega⟩
  · rintro x ⟨x1, x2⟩
    repeat' (first
      | ((with_reducible apply Sat.run (X := X64)); exact rfl; (first | exact True.intro | (exact phi) | skip))
      | ((with_reducible apply Sat.drawn); kernel_rfl)
      | ((with_reducible apply DSat.run (X := X64)); exact rfl; (first | exact True.intro | (exact phi) | skip))
      | ((with_reducible apply DSat.fin); kernel_rfl)
      | ((with_reducible apply Sat.cond_p); exact rfl; all_goals (intro h; (try simp only [V.EV.sub, V.EV.len] at h))) | fail)
    · (refine Sat.fin (Sat.end1 rfl rfl rfl True.intro (.refl _ purX) (by first | exact .inl rfl | exact .inr rfl) (fun _ h => h)) ?_; (refine congrArg SV.bool (decide_eq_false fun e => ?_); subst e; exact h rfl))
    · refine Sat.back (x + 1) [] rfl ?_ ?_ ?_
      · (repeat' (first | exact AllP.nil | with_reducible refine AllP.cons ?_ ?_)) <;> first | exact rfl | exact trivial | exact Int.natCast_add_one _
      · refine ⟨by omega, fun i hi => ?_⟩
        rcases Nat.lt_succ_iff_lt_or_eq.1 hi with h1 | rfl
        · exact x2 i h1
        · have e : (i : Int).toNat = i := rfl
          rw [e] at h
          exact Decidable.not_not.1 h
      · omega
    · (refine Sat.fin (Sat.end1 rfl rfl rfl True.intro (.refl _ purX) (by first | exact .inl rfl | exact .inr rfl) (fun _ h => h)) ?_; (refine congrArg SV.bool (decide_eq_true ?_); exact (list_eq_iff rfl hlm.symm).1 fun j hj => x2 j (by omega)))
def trustEq (a b : TrustL) : Bool := bif bif (bif rootEq a.root b.root then decide (a.floor = b.floor) else false) then decide (a.gone = b.gone) else false then decide (a.now = b.now) else false
theorem trustEq_iff (a b : TrustL) : trustEq a b = true ↔ a = b := by
  have h1 := rootEq_iff a.root b.root
  obtain ⟨r, f, g, n⟩ := a
  obtain ⟨r', f', g', n'⟩ := b
  unfold trustEq
  dsimp only at h1 ⊢
  constructor
  · intro h
    cases hr : rootEq r r' <;> rw [hr] at h h1
    · simp at h
    · simp at h
      obtain ⟨⟨rfl, rfl⟩, rfl⟩ := h
      rw [h1.1 rfl]
  · intro h
    cases h
    rw [h1.2 rfl]
    simp
theorem same27 (a b : TrustL) : Fun Tryz.prog Γh 24 [a.v, b.v] (.bool (trustEq a b)) := by
  have h1 := (same_root a.root b.root).weak (Γ := Γh)
  have h2 := ints27 (Γ := Γh) a.gone b.gone
  refine Fun.mk 6 Tryz.func24 rfl Tryz.ntmps24 rfl rfl fun T w0 => ?_
  repeat' (first
    | ((with_reducible apply Sat.run (X := X64)); exact rfl; (first | exact True.intro | (exact phi) | skip))
    | ((with_reducible apply Sat.callR (h1)); exact rfl; exact rfl; exact rfl; kernel_rfl; (exact cnvX); exact rfl)
    | ((with_reducible apply Sat.callG1 (h2)); exact rfl; exact rfl; exact rfl; exact rfl; kernel_rfl; (intro hG; (exact cnvX)); exact rfl) | fail)
  (refine Sat.fin (Sat.end1 rfl rfl rfl True.intro (.refl _ purX) (by first | exact .inl rfl | exact .inr rfl) (fun _ h => h)) ?_; rfl)
end Go.Proofs.YtokaegeediokoaaGreatDoor
end
section
namespace Go.Proofs.YtokaegeediokoaaGreatDoor
open Go.RowKit V
set_option maxRecDepth 100000
set_option maxHeartbeats 4000000
set_option linter.unusedSimpArgs false
attribute [local irreducible] V.Sat V.DSat
end Go.Proofs.YtokaegeediokoaaGreatDoor
end
section
namespace Go.Proofs.YtokaegeediokoaaGreatDoor
open Go.RowKit V
set_option maxRecDepth 100000
set_option maxHeartbeats 4000000
set_option linter.unusedSimpArgs false
attribute [local irreducible] V.Sat V.DSat tkO tkR tkB numV hashO
end Go.Proofs.YtokaegeediokoaaGreatDoor
end
section
namespace Go.Proofs.YtokaegeediokoaaGreatDoor
open Go.RowKit V
set_option maxRecDepth 100000
set_option maxHeartbeats 8000000
set_option linter.unusedSimpArgs false
attribute [local irreducible] tkO tkR tkB numV hashO
end Go.Proofs.YtokaegeediokoaaGreatDoor
end
section
namespace Go.Proofs.YtokaegeediokoaaGreatDoor
open Go.RowKit V
set_option maxRecDepth 100000
set_option maxHeartbeats 8000000
set_option linter.unusedSimpArgs false
attribute [local irreducible] V.Sat V.DSat
end Go.Proofs.YtokaegeediokoaaGreatDoor
end
section
namespace Go.Proofs.YtokaegeediokoaaGreatDoor
open Go.RowKit V
theorem any_key (K : List Int) (k : Int) : (K.any fun y => decide (k = y)) = true ↔ k ∈ K := by
  rw [List.any_eq_true]
  constructor
  · rintro ⟨y, hy, e⟩
    rw [of_decide_eq_true e]
    exact hy
  · exact fun h => ⟨k, h, decide_eq_true rfl⟩
end Go.Proofs.YtokaegeediokoaaGreatDoor
end
section
namespace Go.Proofs.YtokaegeediokoaaGreatDoor
open Go.RowKit V
set_option maxRecDepth 100000
set_option maxHeartbeats 8000000
set_option linter.unusedSimpArgs false
def sv5 : Rel := ⟨5, 2, 10, 0, List.replicate 32 0, 1, List.replicate 32 0, [], []⟩
def st5 (n : Int) : TrustL := ⟨plainL, 3, [4], n⟩
attribute [local irreducible] V.Sat V.DSat
theorem parts_nil : Fun Tryz.prog Γh 34 [(st5 10).v, sv5.v, .ro (.u8 []), .ro (.g 0 7 fun _ => [])] (.bool true) := by
  refine Fun.mk 6 Tryz.func34 rfl Tryz.ntmps34 rfl rfl fun T w0 => ?_
  repeat' (first
    | ((with_reducible apply Sat.run (X := X64)); exact rfl; (first | exact True.intro | (exact phi) | skip))
    | ((with_reducible apply Sat.cond_f); exact rfl)
    | ((with_reducible apply Sat.inl 7 [] Tryz.func78 Tryz.ntmps78); exact rfl; exact rfl; kernel_rfl; exact rfl; exact rfl; exact rfl; exact rfl; ((repeat' (first | exact AllP.nil | with_reducible refine AllP.cons ?_ ?_)) <;> (first | exact True.intro | exact purX)); intro _ _)
    | ((with_reducible apply Sat.inl 7 [] Tryz.func79 Tryz.ntmps79); exact rfl; exact rfl; kernel_rfl; exact rfl; exact rfl; exact rfl; exact rfl; ((repeat' (first | exact AllP.nil | with_reducible refine AllP.cons ?_ ?_)) <;> (first | exact True.intro | exact purX)); intro _ _)
    | ((with_reducible apply Sat.inl 7 [] Tryz.func147 Tryz.ntmps147); exact rfl; exact rfl; kernel_rfl; exact rfl; exact rfl; exact rfl; exact rfl; ((repeat' (first | exact AllP.nil | with_reducible refine AllP.cons ?_ ?_)) <;> (first | exact True.intro | exact purX)); intro _ _)
    | ((with_reducible apply Sat.out1 (C := ⟨_, _, _, _, _, _, _, _, _⟩)); exact rfl; (first | exact .inl rfl | exact .inr rfl); exact rfl; (exact phi); exact rfl)
    | (with_reducible apply Sat.unroll 40) | fail)
  (refine Sat.fin (Sat.end1 rfl rfl rfl True.intro (.refl _ purX) (by first | exact .inl rfl | exact .inr rfl) (fun _ h => h)) ?_; rfl)
theorem plain_ok : rootB plainL = true := by decide
theorem sv5_ok : validB sv5 = true := by decide
theorem plainW : RootW plainL := ⟨by decide⟩
theorem sv5W : RelW sv5 := ⟨rfl, rfl, fun p hp => by cases hp⟩
theorem plain_cnt (b : List UInt8) (hb : b.length ≤ 1000000) : CntOk plainL.keys (plainL.roles.getD 0 role0).keys b [] := ⟨hb, fun k h => by
  have h2 : k = 0 ∨ k = 1 := by simpa [any_key, plainL] using h
  have e : plainL.keys.length = 2 := rfl
  rcases h2 with rfl | rfl <;> rw [e] <;> omega, fun i hi => absurd hi (Nat.not_lt_zero _), by decide⟩
theorem plain_role (b : List UInt8) (hb : b.length ≤ 1000000) : RoleOk plainL nmRel b [] := .inr ⟨0, rfl, by decide, by omega, plain_cnt b hb⟩
theorem plain_cnt2 (b : List UInt8) (hb : b.length ≤ 1000000) : CntOk plainL.keys (plainL.roles.getD 1 role0).keys b [] := ⟨hb, fun k h => by
  have h2 : k = 0 := by simpa [any_key, plainL] using h
  have e : plainL.keys.length = 2 := rfl
  subst h2; rw [e]; omega, fun i hi => absurd hi (Nat.not_lt_zero _), by decide⟩
theorem plain_role2 (b : List UInt8) (hb : b.length ≤ 1000000) : RoleOk plainL nmRoot b [] := .inr ⟨1, rfl, by decide, by omega, plain_cnt2 b hb⟩
theorem sanity_core (bz bq : List UInt8) (hz : okP bz = true ∧ parseP bz = sv5) (hq : okQ bq = true ∧ parseQ bq = plainL) (hzl : bz.length ≤ 1000000) (hql : bq.length ≤ 1000000)
    (c1 : Fun Tryz.prog Γh 13 [sv5.v] (.ro (.u8 bz))) (c2 : Fun Tryz.prog Γh 36 [plainL.v] (.ro (.u8 bq))) : Fun Tryz.prog Γh 10 [] (.bool true) := by
  have c0 := plain_spec (Γ := Γh)
  have d1 := count_some plainL nmRel [] [] 0 (by decide) (by omega) rfl (plain_cnt [] (by decide))
  rw [show ((cntS plainL.keys (plainL.roles.getD 0 role0).keys [] [] ([] : List SigL).length).length : Int) = 0 from rfl] at d1
  have d2 := count_none plainL [111, 116, 104, 101, 114] [] [] rfl
  have e1 : accE (st5 10) bz [] = 270 := by
    unfold accE
    rw [hz.1, hz.2]
    rfl
  have e2 : accE (st5 11) bz [] = 271 := by
    unfold accE
    rw [hz.1, hz.2]
    rfl
  have e3 : accE (st5 10) [] [] = 260 := rfl
  have a1 := laccept_spec (st5 10) bz [] (fun _ => plain_role bz hzl) (by decide) (by rw [hz.2]; decide)
  have a2 := laccept_spec (st5 11) bz [] (fun _ => plain_role bz hzl) (by decide) (by rw [hz.2]; decide)
  have a3 := laccept_spec (st5 10) [] [] (fun _ => plain_role [] (by decide)) (by decide) (by decide)
  unfold accT accR at a1 a2 a3
  rw [e1] at a1
  rw [e2] at a2
  rw [e3] at a3
  simp only [show ¬ ((270 : Int) = 0) by decide, show ¬ ((271 : Int) = 0) by decide, show ¬ ((260 : Int) = 0) by decide, if_false] at a1 a2 a3
  have e4 : rotE (st5 10) bq [] = 274 := by
    unfold rotE
    rw [hq.1, hq.2]
    rfl
  have r1 := rotate_spec (st5 10) bq [] (by decide) (by decide) (by decide) (fun i hi => absurd hi (Nat.not_lt_zero _)) (fun _ => plain_role2 bq hql) (fun _ => by rw [hq.2]; exact plain_role2 bq hql)
  unfold rotT at r1
  rw [e4] at r1
  simp only [show ¬ ((274 : Int) = 0) by decide, if_false] at r1
  have s1 := same27 (st5 10) (st5 10)
  rw [(trustEq_iff _ _).2 rfl] at s1
  have l1 := allows_spec (st5 10) 3
  have l2 := allows_spec (st5 10) 60000
  have l3 := allows_spec (st5 10) 2
  have l4 := allows_spec (st5 10) 4
  have l5 := allows_spec (st5 10) 60001
  rw [show allowB (st5 10) 3 = true by decide] at l1
  rw [show allowB (st5 10) 60000 = true by decide] at l2
  rw [show allowB (st5 10) 2 = false by decide] at l3
  rw [show allowB (st5 10) 4 = false by decide] at l4
  rw [show allowB (st5 10) 60001 = false by decide] at l5
  have p1 := parts_nil
  clear e1 e2 e3 e4 hz hq
  refine Fun.mk 7 Tryz.func10 rfl Tryz.ntmps10 rfl rfl fun T w0 => ?_
  repeat' (first
    | ((with_reducible apply Sat.run (X := X64)); exact rfl; (first | exact True.intro | (exact phi) | skip))
    | ((with_reducible apply Sat.call (c0)); exact rfl; exact rfl; kernel_rfl; (exact cnvX); exact rfl) | fail)
  refine Sat.freezeR true 2 rfl ?_ ?_
  · (repeat' (first | exact AllP.nil | with_reducible refine AllP.cons ?_ ?_)) <;> first | exact rfl | exact trivial | exact .inl ⟨rfl, rfl, rfl⟩ | exact ⟨rfl, rfl, rfl, rfl⟩ | (intro _ _; simp [pureL, pureS, pureE]; done)
  repeat' (first
    | ((with_reducible apply Sat.run (X := X64)); exact rfl; (first | exact True.intro | (exact phi) | skip))
    | ((with_reducible apply Sat.drawn); kernel_rfl)
    | ((with_reducible apply DSat.run (X := X64)); exact rfl; (first | exact True.intro | (exact phi) | skip))
    | ((with_reducible apply DSat.fin); kernel_rfl)
    | ((with_reducible apply Sat.callR (d1)); exact rfl; exact rfl; exact rfl; kernel_rfl; (exact cnvX); exact rfl)
    | ((with_reducible apply Sat.callR (d2)); exact rfl; exact rfl; exact rfl; kernel_rfl; (exact cnvX); exact rfl)
    | ((with_reducible apply DSat.call (c1)); exact rfl; exact rfl; kernel_rfl; (exact cnvX); exact rfl)
    | ((with_reducible apply DSat.call (c2)); exact rfl; exact rfl; kernel_rfl; (exact cnvX); exact rfl)
    | ((with_reducible apply DSat.call (a1)); exact rfl; exact rfl; kernel_rfl; (exact cnvX); exact rfl)
    | ((with_reducible apply DSat.call (a2)); exact rfl; exact rfl; kernel_rfl; (exact cnvX); exact rfl)
    | ((with_reducible apply Sat.call (a3)); exact rfl; exact rfl; kernel_rfl; (exact cnvX); exact rfl)
    | ((with_reducible apply DSat.call (r1)); exact rfl; exact rfl; kernel_rfl; (exact cnvX); exact rfl)
    | ((with_reducible apply Sat.callG1 (s1)); exact rfl; exact rfl; exact rfl; exact rfl; kernel_rfl; (intro hG; (exact cnvX)); exact rfl)
    | ((with_reducible apply Sat.callG1 (l1)); exact rfl; exact rfl; exact rfl; exact rfl; kernel_rfl; (intro hG; (exact cnvX)); exact rfl)
    | ((with_reducible apply Sat.callG1 (l2)); exact rfl; exact rfl; exact rfl; exact rfl; kernel_rfl; (intro hG; (exact cnvX)); exact rfl)
    | ((with_reducible apply Sat.callG1 (l3)); exact rfl; exact rfl; exact rfl; exact rfl; kernel_rfl; (intro hG; (exact cnvX)); exact rfl)
    | ((with_reducible apply Sat.callG1 (l4)); exact rfl; exact rfl; exact rfl; exact rfl; kernel_rfl; (intro hG; (exact cnvX)); exact rfl)
    | ((with_reducible apply Sat.callG1 (l5)); exact rfl; exact rfl; exact rfl; exact rfl; kernel_rfl; (intro hG; (exact cnvX)); exact rfl)
    | ((with_reducible apply Sat.callG1 (p1)); exact rfl; exact rfl; exact rfl; exact rfl; kernel_rfl; (intro hG; (exact cnvX)); exact rfl) | fail)
  (refine Sat.fin (Sat.end1 rfl rfl rfl True.intro (.refl _ purX) (by first | exact .inl rfl | exact .inr rfl) (fun _ h => h)) ?_; rfl)
theorem sanity_law : Fun Tryz.prog Γh 10 [] (.bool true) := by
  have h1 := okP_of sv5 sv5_ok sv5W
  have h2 := okQ_of plainL plain_ok plainW
  exact sanity_core (bytesR sv5) (bytesQ plainL) h1 h2 (by decide) (by decide) ((bytesR_spec sv5 sv5_ok).weak) ((rootBytesR_spec plainL plain_ok).weak)
end Go.Proofs.YtokaegeediokoaaGreatDoor
end
section
namespace Go.Proofs.YtokaegeediokoaaGreatDoor
open Go.RowKit V
set_option maxRecDepth 100000
set_option linter.unusedSimpArgs false
theorem flat_len {α : Type} (f : α → List UInt8) (k : Nat) : ∀ (l : List α), (∀ x ∈ l, (f x).length = k) → (l.flatMap f).length = k * l.length
  | [], _ => rfl
  | x :: r, h => by
    rw [List.flatMap_cons, List.length_append, flat_len f k r (fun y hy => h y (List.mem_cons_of_mem _ hy)), h x (List.mem_cons_self ..), List.length_cons, Nat.mul_succ]
    omega
end Go.Proofs.YtokaegeediokoaaGreatDoor
end
section
namespace Go.Proofs.YtokaegeediokoaaGreatDoor
open Go.RowKit V
set_option maxRecDepth 100000
set_option maxHeartbeats 8000000
set_option linter.unusedSimpArgs false
theorem mod8 (m : UInt8) : IntKind.u8.wrap ((BitVec.ofInt IntKind.u8.bits (m.toNat : Int) &&& BitVec.ofInt IntKind.u8.bits 7).toNat : Nat) = ((UInt8.ofNat (m.toNat % 8)).toNat : Int) := by
  have h1 := band_mask .u8 (m.toNat : Int) 3 (by decide)
  rw [show ((2 : Int) ^ 3 - 1) = 7 from rfl] at h1
  rw [h1, UInt8.toNat_ofNat_of_lt' (show m.toNat % 8 < 256 by omega)]
  omega
attribute [local irreducible] V.Sat V.DSat
end Go.Proofs.YtokaegeediokoaaGreatDoor
end
section
namespace Go.Proofs.YtokaegeediokoaaGreatDoor.V
open Go.RowKit
section
variable {C : Ctx} {Q0 : Exit → Act → World → Prop} {F F' : Tr} {M M' : Mem} {ids : List Nat} {k : List Kont} {full rest : List Oper}
theorem Sat.rangeS {d : Option Tmp} {x : Operand} {t : TypeId} {type : TypeId} {pos : String} {after : Array Edge} {l : List UInt8} {i : Nat}
    (hu : C.P.underlying t = some .string) (hx : opd C.Γ F x = some (.str l)) (hp : putD C.N F d (some (.ptr i 0)) some = some F')
    (h : Sat C Q0 (.reg full rest F' ((i, .obj (.stringIter ⟨l.toArray⟩ 0)) :: M) ids k)) :
    Sat C Q0 (.reg full (⟨d, .range t x, type, pos, after, none⟩ :: rest) F M (i :: ids) k) := by
  intro U E a w hsup hst
  obtain ⟨hi, hs'⟩ := hsup
  obtain ⟨F1, h1, h2⟩ := putD_inv hp
  cases h1
  refine wpList_plain rfl fun K hK => ?_
  unfold Oper.wp
  have hr := opd_rep hst.vw hx
  generalize hv : a.eval x = v at hr
  cases hr with
  | str _ hl =>
    have hrun : (execOp a.eval ⟨d, .range t x, type, pos, after, none⟩).run C.P w = .ok (.value (.pointer (some ⟨w.heap.size, 0, none⟩))) (w.alloc (.stringIter ⟨l.toArray⟩ 0)) := by
      unfold execOp
      simp only [Instr.range, hv, Sem.run_bind, run_underlying hu, Result.andThen_ok, Sem.run_pure, run_newObj_alloc]
    rw [hrun]
    exact hK _ _ (h _ _ _ _ hs' ((hst.new hi (B := .obj (.stringIter ⟨l.toArray⟩ 0)) (show (w.heap.push _)[w.heap.size]? = _ by simp)).putD h2 fun s' hs' => by cases hs'; exact .ptr _ 0 _ (by simp [envWith])))
theorem St.iter {U : Nat → Prop} {E : Env} {a : Act} {w : World} (h : St C F M U E a w) {id b : Nat} {s : ByteArray} {p p' : Nat} (hM : upd M id (.obj (.stringIter s p')) = some M') (hf : find M id = some (.obj (.stringIter s p))) (hE : E id = some (some b)) : St C F M' U E a (w.iterAt b s p') := by
  have hk : w.heap[b]? = some (.stringIter s p) := (h.mem.at hf hE).2
  have hfind := find_upd hM
  have hsome : ∀ k, (find M' k).isSome = true → (find M k).isSome = true := fun k hk => by
    rw [hfind] at hk
    split at hk
    · rename_i e; subst e; rw [hf]; rfl
    · exact hk
  have hT : ∀ x, x < w.heap.size → trk C.T0 M' E x → trk C.T0 M E x := by
    rintro x _ (⟨k, B1, h1, h2⟩ | h0)
    · have := hsome k (by rw [h1]; rfl)
      obtain ⟨B2, hB2⟩ := Option.isSome_iff_exists.1 this
      exact .inl ⟨k, B2, hB2, h2⟩
    · exact .inr h0
  have hTb : mine M E b := ⟨id, _, hf, hE⟩
  have hw : Chg (mine M E) w (w.iterAt b s p') := by
    refine ⟨by rw [Lib.iterAt_size]; exact Nat.le_refl _, fun x _ hn => Lib.iterAt_other w b x s p' (fun e => hn (by rw [e]; exact hTb)), fun x _ => ?_⟩
    by_cases e : x = b
    · subst e
      simp only [World.shape?, Lib.iterAt_heap w x s p p' hk, hk]
    · simp only [World.shape?, Lib.iterAt_other w b x s p' e]
  refine h.go (fun _ _ h => h) hT hw rfl rfl rfl ⟨fun k B1 h1 => ?_, fun k k' x h1 h2 h3 h4 => h.mem.inj k k' x (hsome k h1) (hsome k' h2) h3 h4⟩ (fun k x h1 h2 => h.own k x (hsome k h1) h2) h.fresh
  rw [hfind] at h1
  split at h1
  · rename_i e
    subst e
    simp at h1
    subst h1
    left
    exact ⟨b, hE, by rw [Lib.iterAt_size]; exact (h.mem.at hf hE).1, Lib.iterAt_heap w b s p p' hk⟩
  · rename_i e
    rcases h.mem.blk k B1 h1 with ⟨x, h2, h3, h4⟩ | h2
    · left
      have hxb : x ≠ b := fun e' => by
        subst e'
        exact e (h.mem.inj k id x (by rw [h1]; rfl) (by rw [hf]; rfl) h2 hE)
      exact ⟨x, h2, by rw [Lib.iterAt_size]; exact h3, h4.mono (fun _ _ h => h) hT (hw.weak fun _ => .inl) (Lib.iterAt_other w b x s p' hxb)⟩
    · right; exact h2
section
variable {d : Option Tmp} {x : Operand} {type : TypeId} {pos : String} {after : Array Edge} {l : List UInt8} {p i : Nat}
theorem iter_at {U : Nat → Prop} {E : Env} {a : Act} {w : World} (hst : St C F M U E a w) (hx : opd C.Γ F x = some (.ptr i 0)) : ∃ b, a.eval x = .pointer (some ⟨b, 0, none⟩) ∧ E i = some (some b) := by
  have hr := opd_rep hst.vw hx
  generalize a.eval x = v at hr
  cases hr with
  | ptr _ _ b h => exact ⟨b, rfl, h⟩
theorem Sat.nextE (hx : opd C.Γ F x = some (.ptr i 0)) (hf : find M i = some (.obj (.stringIter ⟨l.toArray⟩ p))) (hl : ¬ p < l.length) (hp : putD C.N F d (some (.tup [.bool false])) some = some F') (h : Sat C Q0 (.reg full rest F' M ids k)) :
    Sat C Q0 (.reg full (⟨d, .next x true, type, pos, after, none⟩ :: rest) F M ids k) := by
  intro U E a w hsup hst
  obtain ⟨F1, h1, h2⟩ := putD_inv hp
  cases h1
  refine wpList_plain rfl fun K hK => ?_
  unfold Oper.wp
  obtain ⟨b, hv, hE⟩ := iter_at hst hx
  have hk : w.heap[b]? = some (.stringIter ⟨l.toArray⟩ p) := (hst.mem.at hf hE).2
  have hrun : (execOp a.eval ⟨d, .next x true, type, pos, after, none⟩).run C.P w = .ok (.value (.tuple #[.bool false])) w := by
    unfold execOp
    simp only [hv, Sem.run_bind, Lib.run_next_end_at w b _ p type hk (by simpa [ByteArray.size] using hl), Result.andThen_ok, Sem.run_pure]
  rw [hrun]
  exact hK _ _ (h U E _ _ hsup (hst.putD h2 fun s' hs' => by cases hs'; exact .tup _ [_] (.cons _ _ _ _ (.bool _) .nil)))
theorem Sat.next (hx : opd C.Γ F x = some (.ptr i 0)) (hf : find M i = some (.obj (.stringIter ⟨l.toArray⟩ p))) (hok : okLen l.length) (hl : p < l.length)
    (hp : putD C.N F d (some (.tup [.bool true, .int .i64 (p : Int), .int .i32 ((Utf8.decode ⟨l.toArray⟩ p).1 : Int)])) some = some F')
    (hM : upd M i (.obj (.stringIter ⟨l.toArray⟩ (p + (Utf8.decode ⟨l.toArray⟩ p).2))) = some M') (hn : Sat C Q0 (.reg full rest F' M' ids k)) :
    Sat C Q0 (.reg full (⟨d, .next x true, type, pos, after, none⟩ :: rest) F M ids k) := by
  intro U E a w hsup hst
  obtain ⟨F1, h1, h2⟩ := putD_inv hp
  cases h1
  refine wpList_plain rfl fun K hK => ?_
  unfold Oper.wp
  obtain ⟨b, hv, hE⟩ := iter_at hst hx
  have hk : w.heap[b]? = some (.stringIter ⟨l.toArray⟩ p) := (hst.mem.at hf hE).2
  have hrun : (execOp a.eval ⟨d, .next x true, type, pos, after, none⟩).run C.P w = .ok (.value (.tuple #[.bool true, .int .i64 p, .int .i32 (Utf8.decode ⟨l.toArray⟩ p).1])) (w.iterAt b ⟨l.toArray⟩ (p + (Utf8.decode ⟨l.toArray⟩ p).2)) := by
    unfold execOp
    simp only [hv, Sem.run_bind, Lib.run_next_any_at w b _ p type hk (by simpa [ByteArray.size] using hl), Result.andThen_ok, Sem.run_pure]
  rw [hrun]
  have hc := Lib.rune_le ⟨l.toArray⟩ p
  unfold okLen at hok
  exact hK _ _ (hn U E _ _ hsup ((hst.iter hM hf hE).putD h2 fun s' hs' => by
    cases hs'
    exact .tup _ [_, _, _] (.cons _ _ _ _ (.bool _) (.cons _ _ _ _ (.int _ _ (inR_i64 (by omega) (by omega))) (.cons _ _ _ _ (.int _ _ (by simp [inR, IntKind.min, IntKind.max, IntKind.signed, IntKind.bits]; omega)) .nil)))))
theorem dec_lo (s : ByteArray) (i : Nat) (h : (s.get! i).toNat < 128) : Utf8.decode s i = ((s.get! i).toNat, 1) := by
  unfold Utf8.decode
  simp only [Nat.add_zero]
  rw [if_pos h]
theorem dec_hi (s : ByteArray) (i : Nat) (h : ¬ (s.get! i).toNat < 128) : 128 ≤ (Utf8.decode s i).1 := by
  unfold Utf8.decode
  simp only [Nat.add_zero]
  rw [if_neg h]
  split
  · split
    · rename_i h2; exact h2
    · simp [Utf8.runeError]
  · split
    · split
      · rename_i h2; simp only [Bool.and_eq_true, decide_eq_true_eq, ge_iff_le] at h2; omega
      · simp [Utf8.runeError]
    · split
      · split
        · rename_i h2; simp only [Bool.and_eq_true, decide_eq_true_eq, ge_iff_le] at h2; omega
        · simp [Utf8.runeError]
      · simp [Utf8.runeError]
theorem get_l (hl : p < l.length) : (ByteArray.get! ⟨l.toArray⟩ p) = l.getD p 0 := by
  show l.toArray[p]! = _
  simp [hl, List.getD]
theorem Sat.nextA (hx : opd C.Γ F x = some (.ptr i 0)) (hf : find M i = some (.obj (.stringIter ⟨l.toArray⟩ p))) (hok : okLen l.length) (hl : p < l.length) (ha : (l.getD p 0).toNat < 128)
    (hp : putD C.N F d (some (.tup [.bool true, .int .i64 (p : Int), .int .i32 ((l.getD p 0).toNat : Int)])) some = some F')
    (hM : upd M i (.obj (.stringIter ⟨l.toArray⟩ (p + 1))) = some M') (hn : Sat C Q0 (.reg full rest F' M' ids k)) :
    Sat C Q0 (.reg full (⟨d, .next x true, type, pos, after, none⟩ :: rest) F M ids k) := by
  have e := dec_lo ⟨l.toArray⟩ p (by rw [get_l hl]; exact ha)
  rw [get_l hl] at e
  exact Sat.next hx hf hok hl (by rw [e]; exact hp) (by rw [e]; exact hM) hn
theorem Sat.nextN {Ff : Nat → Tr} {Mf : Nat → Mem} (hx : opd C.Γ F x = some (.ptr i 0)) (hf : find M i = some (.obj (.stringIter ⟨l.toArray⟩ p))) (hok : okLen l.length) (hl : p < l.length) (ha : ¬ (l.getD p 0).toNat < 128)
    (hp : ∀ c : Nat, putD C.N F d (some (.tup [.bool true, .int .i64 (p : Int), .int .i32 (c : Int)])) some = some (Ff c))
    (hM : ∀ q : Nat, upd M i (.obj (.stringIter ⟨l.toArray⟩ q)) = some (Mf q)) (hn : ∀ c q : Nat, 128 ≤ c → c ≤ 1114111 → Sat C Q0 (.reg full rest (Ff c) (Mf q) ids k)) :
    Sat C Q0 (.reg full (⟨d, .next x true, type, pos, after, none⟩ :: rest) F M ids k) :=
  Sat.next hx hf hok hl (hp _) (hM _) (hn _ _ (dec_hi ⟨l.toArray⟩ p (by rw [get_l hl]; exact ha)) (Lib.rune_le _ _))
end
end
end Go.Proofs.YtokaegeediokoaaGreatDoor.V
end
section
namespace Go.Proofs.YtokaegeediokoaaGreatDoor.Img
open Go.RowKit V
set_option maxRecDepth 100000
set_option maxHeartbeats 4000000
set_option linter.unusedSimpArgs false
@[reducible] def X64 : IntKind → Bool
  | .i64 => true
  | _ => false
theorem all_iff {α : Type} (l : List α) (p : α → Bool) (z : α) : l.all p = true ↔ ∀ i, i < l.length → p (l.getD i z) = true := by
  rw [List.all_eq_true]
  constructor
  · intro h i hi
    rw [List.getD_eq_getElem?_getD, List.getElem?_eq_getElem hi]
    exact h _ (List.getElem_mem hi)
  · intro h x hx
    obtain ⟨i, hi, rfl⟩ := List.mem_iff_getElem.1 hx
    have := h i hi
    rwa [List.getD_eq_getElem?_getD, List.getElem?_eq_getElem hi] at this
def nameC (c : UInt8) : Bool := (decide (97 ≤ c.toNat) && decide (c.toNat ≤ 122)) || (decide (65 ≤ c.toNat) && decide (c.toNat ≤ 90)) || (decide (48 ≤ c.toNat) && decide (c.toNat ≤ 57))
theorem nameC_iff (c : UInt8) : nameC c = true ↔ (97 ≤ (c.toNat : Int) ∧ (c.toNat : Int) ≤ 122) ∨ (65 ≤ (c.toNat : Int) ∧ (c.toNat : Int) ≤ 90) ∨ (48 ≤ (c.toNat : Int) ∧ (c.toNat : Int) ≤ 57) := by
  unfold nameC
  simp only [Bool.or_eq_true, Bool.and_eq_true, decide_eq_true_eq]
  omega
def nameB (s : List UInt8) : Bool := s.all nameC && (decide (1 ≤ s.length) && decide (s.length ≤ 12))
attribute [local irreducible] V.Sat V.DSat
theorem sign_ref (c : UInt8) : Fun Tryz.prog [] 180 [.int .u8 (c.toNat : Int)] (.bool (nameC c)) := by
  refine Fun.mk 6 Tryz.func180 rfl Tryz.ntmps180 rfl rfl fun T w0 => ?_
  repeat' (first
    | ((with_reducible apply Sat.run (X := X64)); exact rfl; (first | exact True.intro | (exact phi) | skip)) | fail)
  (refine Sat.fin (Sat.end1 rfl rfl rfl True.intro (.refl _ pur) (by first | exact .inl rfl | exact .inr rfl) (fun _ h => h)) ?_; (refine congrArg SV.bool ?_; apply Bool.eq_iff_iff.2; rw [nameC_iff]; simp [Bool.cond_eq_ite]; omega))
theorem name_ref (s : List UInt8) : Fun Tryz.prog [] 151 [.str s] (.bool (nameB s)) := by
  refine Fun.mkF 6 Tryz.func151 rfl Tryz.ntmps151 rfl rfl fun hf T w0 => ?_
  obtain ⟨hl, _⟩ := hf
  unfold factsS okLen at hl
  repeat' (first
    | ((with_reducible apply Sat.run (X := X64)); exact rfl; (first | exact True.intro | (exact phi) | skip)) | fail)
  apply Sat.loop (α := Nat) (fun x => x ≤ s.length ∧ ∀ i, i < x → nameC (s.getD i 0) = true) (fun x => s.length - x) 0 (fun x => [(3, .int .i64 (x : Int))]) (fun _ => []) [] [] 0
  · intro x; exact rfl
  · intro x; exact rfl
  · exact rfl
  · exact rfl
  · (repeat' (first | exact AllP.nil | with_reducible refine AllP.cons ?_ ?_)) <;> first | exact rfl | exact trivial
  · exact ⟨Nat.zero_le _, fun i hi => by omega⟩
  · rintro x ⟨x1, x2⟩
    by_cases hx : x < s.length
    · have hs := sign_ref (s.getD (x : Int).toNat 0)
      cases hc : nameC (s.getD (x : Int).toNat 0) with
      | true =>
        rw [hc] at hs
        repeat' (first
          | ((with_reducible apply Sat.run (X := X64)); exact rfl; (first | exact True.intro | (exact phi) | skip))
          | ((with_reducible apply Sat.cond_f); exact rfl)
          | ((with_reducible apply Sat.cond_pt); exact rfl; (try dsimp only [V.EV.sub, V.EV.len]); first | assumption | omega)
          | ((with_reducible apply Sat.callR (hs)); exact rfl; exact rfl; exact rfl; kernel_rfl; (exact cnv); exact rfl) | fail)
        refine Sat.back (x + 1) [] rfl ?_ ?_ ?_
        · (repeat' (first | exact AllP.nil | with_reducible refine AllP.cons ?_ ?_)) <;> first | exact rfl | exact trivial | exact Int.natCast_add_one _
        · refine ⟨by omega, fun i hi => ?_⟩
          rcases Nat.lt_succ_iff_lt_or_eq.1 hi with h1 | rfl
          · exact x2 i h1
          · exact hc
        · omega
      | false =>
        rw [hc] at hs
        repeat' (first
          | ((with_reducible apply Sat.run (X := X64)); exact rfl; (first | exact True.intro | (exact phi) | skip))
          | ((with_reducible apply Sat.cond_t); exact rfl)
          | ((with_reducible apply Sat.cond_pt); exact rfl; (try dsimp only [V.EV.sub, V.EV.len]); first | assumption | omega)
          | ((with_reducible apply Sat.callR (hs)); exact rfl; exact rfl; exact rfl; kernel_rfl; (exact cnv); exact rfl) | fail)
        (refine Sat.fin (Sat.end1 rfl rfl rfl True.intro (.refl _ pur) (by first | exact .inl rfl | exact .inr rfl) (fun _ h => h)) ?_; (refine congrArg SV.bool ?_; unfold nameB; rw [show s.all nameC = false from Bool.eq_false_iff.2 fun e => by have q := (all_iff s nameC 0).1 e x hx; rw [Int.toNat_natCast] at hc; rw [hc] at q; cases q]; rfl))
    · have hx2 : x = s.length := by omega
      subst hx2
      repeat' (first
        | ((with_reducible apply Sat.run (X := X64)); exact rfl; (first | exact True.intro | (exact phi) | skip))
        | ((with_reducible apply Sat.cond_pf); exact rfl; (try dsimp only [V.EV.sub, V.EV.len]); first | assumption | omega) | fail)
      (refine Sat.fin (Sat.end1 rfl rfl rfl True.intro (.refl _ pur) (by first | exact .inl rfl | exact .inr rfl) (fun _ h => h)) ?_; (refine congrArg SV.bool ?_; unfold nameB; rw [(all_iff s nameC 0).2 fun i hi => x2 i hi]; apply Bool.eq_iff_iff.2; simp [Bool.cond_eq_ite]; omega))
end Go.Proofs.YtokaegeediokoaaGreatDoor.Img
end
section
namespace Go.Proofs.YtokaegeediokoaaGreatDoor.Img
open Go.RowKit V
set_option maxRecDepth 100000
set_option maxHeartbeats 4000000
set_option linter.unusedSimpArgs false
attribute [local irreducible] V.Sat V.DSat
theorem isName_spec (s : List UInt8) : Fun Tryz.prog [] 146 [.str s] (.bool (nameB s)) := by
  refine Fun.mkF 6 Tryz.func146 rfl Tryz.ntmps146 rfl rfl fun hf T w0 => ?_
  obtain ⟨hok, _⟩ := hf
  have hok : okLen s.length := hok
  have hl := hok
  unfold okLen at hl
  repeat' (first
    | ((with_reducible apply Sat.run (X := X64)); exact rfl; (first | exact True.intro | (exact phi) | skip)) | fail)
  apply Sat.rangeS
  · kernel_rfl
  · exact rfl
  · exact rfl
  repeat' (first
    | ((with_reducible apply Sat.run (X := X64)); exact rfl; (first | exact True.intro | (exact phi) | skip)) | fail)
  apply Sat.loop (α := Nat) (fun x => x ≤ s.length ∧ ∀ i, i < x → nameC (s.getD i 0) = true) (fun x => s.length - x) 0 (fun x => []) (fun x => [(0, .obj (.stringIter ⟨s.toArray⟩ x))]) [] [] 0
  · intro x; exact rfl
  · intro x; exact rfl
  · exact rfl
  · exact rfl
  · (repeat' (first | exact AllP.nil | with_reducible refine AllP.cons ?_ ?_)) <;> first | exact rfl | exact trivial
  · exact ⟨Nat.zero_le _, fun i hi => by omega⟩
  rintro x ⟨x1, x2⟩
  have hno : ∀ i, i < s.length → nameC (s.getD i 0) = false → nameB s = false := fun i hi hc => by
    unfold nameB
    rw [show s.all nameC = false from Bool.eq_false_iff.2 fun e => by have q := (all_iff s nameC 0).1 e i hi; rw [hc] at q; cases q]
    rfl
  by_cases hx : x < s.length
  · by_cases ha : (s.getD x 0).toNat < 128
    · repeat' (first
          | ((with_reducible apply Sat.run (X := X64)); exact rfl; (first | exact True.intro | (exact phi) | skip))
          | ((with_reducible apply Sat.drawn); kernel_rfl)
          | ((with_reducible apply DSat.run (X := X64)); exact rfl; (first | exact True.intro | (exact phi) | skip))
          | ((with_reducible apply DSat.fin); kernel_rfl) | fail)
      with_reducible apply Sat.nextA
      · exact rfl
      · exact rfl
      · exact hok
      · exact hx
      · exact ha
      · exact rfl
      · exact rfl
      repeat' (first
        | ((with_reducible apply Sat.run (X := X64)); exact rfl; (first | exact True.intro | (exact phi) | skip)) | fail)
      with_reducible apply Sat.cond_t
      · exact rfl
      repeat' (first
        | ((with_reducible apply Sat.run (X := X64)); exact rfl; (first | exact True.intro | (exact phi) | skip)) | fail)
      with_reducible apply Sat.cond
      · exact rfl
      · intro h
        have hc : nameC (s.getD x 0) = false := by
          cases hc : nameC (s.getD x 0) with
          | false => rfl
          | true =>
            exfalso
            rw [nameC_iff, List.getD_eq_getElem?_getD] at hc
            simp [Bool.cond_eq_ite] at h
            omega
        rw [hno x hx hc]
        repeat' (first
          | ((with_reducible apply Sat.run (X := X64)); exact rfl; (first | exact True.intro | (exact phi) | skip)) | fail)
        (refine Sat.fin (Sat.end1 rfl rfl rfl True.intro (.refl _ pur) (by first | exact .inl rfl | exact .inr rfl) (fun _ h => h)) ?_; rfl)
      · intro h
        have hc : nameC (s.getD x 0) = true := by
          rw [nameC_iff, List.getD_eq_getElem?_getD]
          simp [Bool.cond_eq_ite] at h
          omega
        repeat' (first
          | ((with_reducible apply Sat.run (X := X64)); exact rfl; (first | exact True.intro | (exact phi) | skip)) | fail)
        refine Sat.back (x + 1) [] rfl ?_ ?_ ?_
        · (repeat' (first | exact AllP.nil | with_reducible refine AllP.cons ?_ ?_)) <;> first | exact rfl | exact trivial | exact Int.natCast_add_one _
        · refine ⟨by omega, fun i hi => ?_⟩
          rcases Nat.lt_succ_iff_lt_or_eq.1 hi with h1 | rfl
          · exact x2 i h1
          · exact hc
        · omega
    · have hc : nameC (s.getD x 0) = false := by
        cases hc : nameC (s.getD x 0) with
        | false => rfl
        | true =>
          exfalso
          rw [nameC_iff] at hc
          omega
      rw [hno x hx hc]
      repeat' (first
        | ((with_reducible apply Sat.run (X := X64)); exact rfl; (first | exact True.intro | (exact phi) | skip)) | fail)
      with_reducible apply Sat.nextN
      · exact rfl
      · exact rfl
      · exact hok
      · exact hx
      · exact ha
      · intro c; exact rfl
      · intro q; exact rfl
      intro c q hc1 hc2
      repeat' (first
        | ((with_reducible apply Sat.run (X := X64)); exact rfl; (first | exact True.intro | (exact phi) | skip)) | fail)
      with_reducible apply Sat.cond_t
      · exact rfl
      repeat' (first
        | ((with_reducible apply Sat.run (X := X64)); exact rfl; (first | exact True.intro | (exact phi) | skip)) | fail)
      with_reducible apply Sat.cond
      · exact rfl
      · intro h
        repeat' (first
          | ((with_reducible apply Sat.run (X := X64)); exact rfl; (first | exact True.intro | (exact phi) | skip)) | fail)
        (refine Sat.fin (Sat.end1 rfl rfl rfl True.intro (.refl _ pur) (by first | exact .inl rfl | exact .inr rfl) (fun _ h => h)) ?_; rfl)
      · intro h
        exfalso
        simp [Bool.cond_eq_ite] at h
        omega
  · have hx2 : x = s.length := by omega
    subst hx2
    repeat' (first
      | ((with_reducible apply Sat.run (X := X64)); exact rfl; (first | exact True.intro | (exact phi) | skip)) | fail)
    with_reducible apply Sat.nextE
    · exact rfl
    · exact rfl
    · exact hx
    · exact rfl
    repeat' (first
      | ((with_reducible apply Sat.run (X := X64)); exact rfl; (first | exact True.intro | (exact phi) | skip)) | fail)
    with_reducible apply Sat.cond_f
    · exact rfl
    repeat' (first
      | ((with_reducible apply Sat.run (X := X64)); exact rfl; (first | exact True.intro | (exact phi) | skip)) | fail)
    (refine Sat.fin (Sat.end1 rfl rfl rfl True.intro (.refl _ pur) (by first | exact .inl rfl | exact .inr rfl) (fun _ h => h)) ?_; (refine congrArg SV.bool ?_; unfold nameB; rw [(all_iff s nameC 0).2 fun i hi => x2 i hi]; apply Bool.eq_iff_iff.2; simp [Bool.cond_eq_ite]; omega))
end Go.Proofs.YtokaegeediokoaaGreatDoor.Img
end
section
namespace Go.Proofs.YtokaegeediokoaaGreatDoor.Img
open Go.RowKit V
set_option maxRecDepth 100000
set_option maxHeartbeats 4000000
set_option linter.unusedSimpArgs false
structure SecL where
  name : List UInt8
  fr : Int
  to : Int
  code : Bool
@[reducible] def SecL.l (x : SecL) : List SV := [.str x.name, .int .i64 x.fr, .int .i64 x.to, .bool x.code]
@[reducible] def SecL.v (x : SecL) : SV := .agg [.str x.name, .int .i64 x.fr, .int .i64 x.to, .bool x.code]
def sec0 : SecL := ⟨[], 0, 0, false⟩
@[reducible] def secE (l : List SecL) : EV := .g l.length 4 fun i => [.str (l.getD i sec0).name, .int .i64 (l.getD i sec0).fr, .int .i64 (l.getD i sec0).to, .bool (l.getD i sec0).code]
def idxL {α : Type} (p : α → Bool) : List α → Nat → Int
  | [], _ => -1
  | a :: r, k => match p a with
    | true => (k : Int)
    | false => idxL p r (k + 1)
theorem idxL_at {α : Type} (p : α → Bool) (z : α) : ∀ (l : List α) (k x : Nat), (∀ i, i < x → p (l.getD i z) = false) → x < l.length → p (l.getD x z) = true → idxL p l k = ((k + x : Nat) : Int)
  | [], _, _, _, h, _ => by simp at h
  | a :: r, k, 0, _, _, h => by
    have : p a = true := h
    simp [idxL, this]
  | a :: r, k, x + 1, h1, h2, h3 => by
    have h0 : p a = false := h1 0 (by omega)
    simp only [idxL, h0]
    rw [idxL_at p z r (k + 1) x (fun i hi => by simpa using h1 (i + 1) (by omega)) (by simpa using h2) (by simpa using h3)]
    omega
theorem idxL_none {α : Type} (p : α → Bool) (z : α) : ∀ (l : List α) (k : Nat), (∀ i, i < l.length → p (l.getD i z) = false) → idxL p l k = -1
  | [], _, _ => rfl
  | a :: r, k, h => by
    have h0 : p a = false := h 0 (by simp)
    rw [idxL, h0]
    exact idxL_none p z r (k + 1) fun i hi => by simpa using h (i + 1) (by simpa using hi)
theorem idxL_any {α : Type} (p : α → Bool) : ∀ (l : List α) (k : Nat), decide (0 ≤ idxL p l k) = l.any p
  | [], _ => rfl
  | a :: r, k => by
    rw [idxL, List.any_cons]
    cases h : p a with
    | true => simp
    | false => simpa using idxL_any p r (k + 1)
attribute [local irreducible] V.Sat V.DSat
theorem indexFunc_sec (p : SecL → Bool) (f : FuncId) (e : EV) (hpe : pureE e) (hcl : callable Tryz.prog f = true) (hp : ∀ y : SecL, Fun Tryz.prog [] f [y.v, .rop e 0 0] (.bool (p y))) (l : List SecL) : Fun Tryz.prog [] 148 [.ro (secE l), .fn f [.rop e 0 0]] (.int .i64 (idxL p l 0)) := by
  refine Fun.mkF 6 Tryz.func148 rfl Tryz.ntmps148 rfl rfl fun hf T w0 => ?_
  obtain ⟨⟨hl, _⟩, _⟩ := hf
  have hl : l.length ≤ 9223372036854775807 := hl
  repeat' (first
    | ((with_reducible apply Sat.run (X := X64)); exact rfl; (first | exact True.intro | (exact phi) | skip)) | fail)
  apply Sat.loop (α := Nat) (fun x => x ≤ l.length ∧ ∀ i, i < x → p (l.getD i sec0) = false) (fun x => l.length - x) 0 (fun x => [(8, .int .i64 (x : Int))]) (fun _ => []) [] [] 0
  · intro x; exact rfl
  · intro x; exact rfl
  · exact rfl
  · exact rfl
  · (repeat' (first | exact AllP.nil | with_reducible refine AllP.cons ?_ ?_)) <;> first | exact rfl | exact trivial | exact hpe | exact purX
  · exact ⟨Nat.zero_le _, fun i hi => by omega⟩
  · rintro x ⟨x1, x2⟩
    by_cases hx : x < l.length
    · have hc := hp (l.getD (x : Int).toNat sec0)
      have hcc : (x : Int) < ((secE l).len : Int) := by show (x : Int) < (l.length : Int); omega
      cases hv : p (l.getD (x : Int).toNat sec0) with
      | true =>
        rw [hv] at hc
        repeat' (first
          | ((with_reducible apply Sat.run (X := X64)); exact rfl; (first | exact True.intro | (exact phi) | skip))
          | ((with_reducible apply Sat.cond_t); exact rfl)
          | ((with_reducible apply Sat.cond_pt); exact rfl; (try dsimp only [V.EV.sub, V.EV.len]); first | assumption | omega)
          | ((with_reducible apply Sat.callR (hc)); exact rfl; exact rfl; exact rfl; exact hcl; (exact cnvX); exact rfl) | fail)
        (refine Sat.fin (Sat.end1 rfl rfl rfl True.intro (.refl _ purX) (by first | exact .inl rfl | exact .inr rfl) (fun _ h => h)) ?_; (rw [idxL_at p sec0 l 0 x x2 hx hv, Nat.zero_add]))
      | false =>
        rw [hv] at hc
        repeat' (first
          | ((with_reducible apply Sat.run (X := X64)); exact rfl; (first | exact True.intro | (exact phi) | skip))
          | ((with_reducible apply Sat.cond_f); exact rfl)
          | ((with_reducible apply Sat.cond_pt); exact rfl; (try dsimp only [V.EV.sub, V.EV.len]); first | assumption | omega)
          | ((with_reducible apply Sat.callR (hc)); exact rfl; exact rfl; exact rfl; exact hcl; (exact cnvX); exact rfl) | fail)
        refine Sat.back (x + 1) [] rfl ?_ ?_ ?_
        · (repeat' (first | exact AllP.nil | with_reducible refine AllP.cons ?_ ?_)) <;> first | exact rfl | exact trivial | exact Int.natCast_add_one _ | exact purX
        · refine ⟨by omega, fun i hi => ?_⟩
          rcases Nat.lt_succ_iff_lt_or_eq.1 hi with h1 | rfl
          · exact x2 i h1
          · exact hv
        · omega
    · have hx2 : x = l.length := by omega
      subst hx2
      repeat' (first
        | ((with_reducible apply Sat.run (X := X64)); exact rfl; (first | exact True.intro | (exact phi) | skip)) | fail)
      with_reducible apply Sat.cond_pf
      · exact rfl
      · show ¬ (l.length : Int) < (l.length : Int); omega
      repeat' (first
        | ((with_reducible apply Sat.run (X := X64)); exact rfl; (first | exact True.intro | (exact phi) | skip)) | fail)
      (refine Sat.fin (Sat.end1 rfl rfl rfl True.intro (.refl _ purX) (by first | exact .inl rfl | exact .inr rfl) (fun _ h => h)) ?_; (rw [idxL_none p sec0 l 0 x2]))
theorem contains_sec (p : SecL → Bool) (f : FuncId) (e : EV) (hpe : pureE e) (hcl : callable Tryz.prog f = true) (hp : ∀ y : SecL, Fun Tryz.prog [] f [y.v, .rop e 0 0] (.bool (p y))) (l : List SecL) : Fun Tryz.prog [] 81 [.ro (secE l), .fn f [.rop e 0 0]] (.bool (l.any p)) := by
  have hi := indexFunc_sec p f e hpe hcl hp l
  refine Fun.mk 6 Tryz.func81 rfl Tryz.ntmps81 rfl rfl fun T w0 => ?_
  repeat' (first
    | ((with_reducible apply Sat.run (X := X64)); exact rfl; (first | exact True.intro | (exact phi) | skip))
    | ((with_reducible apply Sat.callR (hi)); exact rfl; exact rfl; exact rfl; kernel_rfl; (exact cnvX); exact rfl) | fail)
  (refine Sat.fin (Sat.end1 rfl rfl rfl True.intro (.refl _ purX) (by first | exact .inl rfl | exact .inr rfl) (fun _ h => h)) ?_; (rw [idxL_any]))
theorem twin_spec (x y : SecL) : Fun Tryz.prog [] 145 [y.v, .rop (.g 1 4 fun _ => x.l) 0 0] (.bool (decide (y.name = x.name))) := by
  refine Fun.mk 6 Tryz.func145 rfl Tryz.ntmps145 rfl rfl fun T w0 => ?_
  repeat' (first
    | ((with_reducible apply Sat.run (X := X64)); exact rfl; (first | exact True.intro | (exact phi) | skip)) | fail)
  (refine Sat.fin (Sat.end1 rfl rfl rfl True.intro (.refl _ purX) (by first | exact .inl rfl | exact .inr rfl) (fun _ h => h)) ?_; rfl)
end Go.Proofs.YtokaegeediokoaaGreatDoor.Img
end
section
namespace Go.Proofs.YtokaegeediokoaaGreatDoor.Img
open Go.RowKit V
set_option maxRecDepth 100000
set_option maxHeartbeats 4000000
set_option linter.unusedSimpArgs false
@[reducible] def XN : IntKind → Bool := fun _ => false
def lastI (l : List SecL) : Nat → Int
  | 0 => 0
  | i + 1 => (l.getD i sec0).to
def Sec1 (x : SecL) (last n : Int) : Prop := nameB x.name = true ∧ last ≤ x.fr ∧ x.fr < x.to ∧ x.to ≤ n ∧ (x.code = true → x.fr.tmod 4 = 0 ∧ x.to.tmod 4 = 0)
instance (x : SecL) (last n : Int) : Decidable (Sec1 x last n) := by unfold Sec1; infer_instance
def SecP (l : List SecL) (n : Int) (i : Nat) : Prop := Sec1 (l.getD i sec0) (lastI l i) n ∧ ∀ k, k < i → (l.getD k sec0).name ≠ (l.getD i sec0).name
instance (l : List SecL) (n : Int) (i : Nat) : Decidable (SecP l n i) := by unfold SecP; infer_instance
def validB (l : List SecL) (n : Int) : Bool := decide (l.length ≤ 8) && decide (∀ i, i < l.length → SecP l n i)
theorem sec1_val (x : SecL) (last n : Int) : (bif bif bif bif !nameB x.name then true else decide (x.fr < last) then true else decide (x.to ≤ x.fr) then true else decide (n < x.to) then true else bif x.code then bif decide (x.fr.tmod 4 ≠ 0) then true else decide (x.to.tmod 4 ≠ 0) else false) = !decide (Sec1 x last n) := by
  have e : decide (Sec1 x last n) = (nameB x.name && (decide (last ≤ x.fr) && (decide (x.fr < x.to) && (decide (x.to ≤ n) && (!x.code || (decide (x.fr.tmod 4 = 0) && decide (x.to.tmod 4 = 0))))))) := by
    unfold Sec1
    apply Bool.eq_iff_iff.2
    refine Iff.trans decide_eq_true_iff ?_
    simp only [decide_eq_true_eq, Bool.and_eq_true, Bool.or_eq_true, Bool.not_eq_true']
    cases x.code <;> simp
  have n1 : decide (x.fr < last) = !decide (last ≤ x.fr) := by rw [← decide_not]; exact decide_eq_decide.2 (by omega)
  have n2 : decide (x.to ≤ x.fr) = !decide (x.fr < x.to) := by rw [← decide_not]; exact decide_eq_decide.2 (by omega)
  have n3 : decide (n < x.to) = !decide (x.to ≤ n) := by rw [← decide_not]; exact decide_eq_decide.2 (by omega)
  rw [e, n1, n2, n3, decide_not, decide_not]
  cases nameB x.name <;> cases decide (last ≤ x.fr) <;> cases decide (x.fr < x.to) <;> cases decide (x.to ≤ n) <;> cases x.code <;> cases decide (x.fr.tmod 4 = 0) <;> cases decide (x.to.tmod 4 = 0) <;> rfl
attribute [local irreducible] V.Sat V.DSat
theorem valid_ref (l : List SecL) (n : Int) : Fun Tryz.prog [] 84 [.ro (secE l), .int .i64 n] (.bool (validB l n)) := by
  refine Fun.mkF 7 Tryz.func84 rfl Tryz.ntmps84 rfl rfl fun hf T w0 => ?_
  obtain ⟨⟨hl, _⟩, _⟩ := hf
  have hl : l.length ≤ 9223372036854775807 := hl
  repeat' (first
    | ((with_reducible apply Sat.run (X := X64)); exact rfl; (first | exact True.intro | (exact phi) | skip)) | fail)
  with_reducible apply Sat.cond_p
  · exact rfl
  · intro h
    have h : (8 : Int) < (l.length : Int) := h
    repeat' (first
      | ((with_reducible apply Sat.run (X := X64)); exact rfl; (first | exact True.intro | (exact phi) | skip)) | fail)
    (refine Sat.fin (Sat.end1 rfl rfl rfl True.intro (.refl _ purX) (by first | exact .inl rfl | exact .inr rfl) (fun _ h => h)) ?_; (refine congrArg SV.bool ?_; unfold validB; rw [decide_eq_false (by omega)]; rfl))
  intro h8
  have h8 : ¬ (8 : Int) < (l.length : Int) := h8
  repeat' (first
    | ((with_reducible apply Sat.run (X := X64)); exact rfl; (first | exact True.intro | (exact phi) | skip)) | fail)
  apply Sat.loop (α := Nat) (fun x => x ≤ l.length ∧ ∀ i, i < x → SecP l n i) (fun x => l.length - x) 0 (fun x => [(5, .int .i64 (lastI l x)), (6, .int .i64 (x : Int))]) (fun _ => []) [] [] 0
  · intro x; exact rfl
  · intro x; exact rfl
  · exact rfl
  · exact rfl
  · (repeat' (first | exact AllP.nil | with_reducible refine AllP.cons ?_ ?_)) <;> first | exact rfl | exact trivial | exact purX
  · exact ⟨Nat.zero_le _, fun i hi => by omega⟩
  rintro x ⟨x1, x2⟩
  by_cases hx : x < l.length
  · have hcc : (x : Int) < ((secE l).len : Int) := by show (x : Int) < (l.length : Int); omega
    have hn := name_ref (l.getD (x : Int).toNat sec0).name
    have hno : ¬ SecP l n x → validB l n = false := fun h => by
      unfold validB
      rw [decide_eq_false (p := ∀ i, i < l.length → SecP l n i) fun e => h (e x hx), Bool.and_false]
    repeat' (first
      | ((with_reducible apply Sat.run (X := X64)); exact rfl; (first | exact True.intro | (exact phi) | skip))
      | ((with_reducible apply Sat.cond_pt); exact rfl; (try dsimp only [V.EV.sub, V.EV.len]); first | assumption | omega) | fail)
    repeat' (first
      | ((with_reducible apply Sat.run (X := XN)); exact rfl; (first | exact True.intro | (exact phi) | skip))
      | ((with_reducible apply Sat.callR (hn)); exact rfl; exact rfl; exact rfl; kernel_rfl; (exact cnvX); exact rfl) | fail)
    with_reducible apply Sat.cond
    · exact rfl
    · intro h
      rw [sec1_val (l.getD (x : Int).toNat sec0) (lastI l x) n] at h
      rw [hno fun e => by have := e.1; rw [Int.toNat_natCast] at h; rw [decide_eq_true this] at h; cases h]
      repeat' (first
        | ((with_reducible apply Sat.run (X := X64)); exact rfl; (first | exact True.intro | (exact phi) | skip)) | fail)
      (refine Sat.fin (Sat.end1 rfl rfl rfl True.intro (.refl _ purX) (by first | exact .inl rfl | exact .inr rfl) (fun _ h => h)) ?_; rfl)
    intro h
    rw [sec1_val (l.getD (x : Int).toNat sec0) (lastI l x) n] at h
    have hs : Sec1 (l.getD x sec0) (lastI l x) n := by
      rw [Int.toNat_natCast] at h
      cases hd : decide (Sec1 (l.getD x sec0) (lastI l x) n) with
      | true => exact of_decide_eq_true hd
      | false => rw [hd] at h; cases h
    repeat' (first
      | ((with_reducible apply Sat.run (X := X64)); exact rfl; (first | exact True.intro | (exact phi) | skip)) | fail)
    apply Sat.loop (α := Nat) (fun y => y ≤ x ∧ ∀ k, k < y → (l.getD k sec0).name ≠ (l.getD x sec0).name) (fun y => x - y) 0 (fun y => [(8, .int .i64 (y : Int))]) (fun _ => []) [] [] 0
    · intro y; exact rfl
    · intro y; exact rfl
    · exact rfl
    · exact rfl
    · (repeat' (first | exact AllP.nil | with_reducible refine AllP.cons ?_ ?_)) <;> first | exact rfl | exact trivial | exact Int.natCast_add_one _ | exact purX
    · exact ⟨Nat.zero_le _, fun i hi => by omega⟩
    rintro y ⟨y1, y2⟩
    by_cases hy : y < x
    · have hyl : (y : Int) < ((secE l).len : Int) := by show (y : Int) < (l.length : Int); omega
      repeat' (first
        | ((with_reducible apply Sat.run (X := X64)); exact rfl; (first | exact True.intro | (exact phi) | skip))
        | ((with_reducible apply Sat.drawn); kernel_rfl)
        | ((with_reducible apply DSat.run (X := X64)); exact rfl; (first | exact True.intro | (exact phi) | skip))
        | ((with_reducible apply DSat.fin); kernel_rfl)
        | ((with_reducible apply Sat.cond_pt); exact rfl; (try dsimp only [V.EV.sub, V.EV.len]); first | assumption | omega)
        | ((with_reducible apply Sat.cond_p); exact rfl; all_goals intro h) | fail)
      · rw [hno fun e => e.2 y hy (by simpa using h)]
        repeat' (first
          | fail | fail)
        (refine Sat.fin (Sat.end1 rfl rfl rfl True.intro (.refl _ purX) (by first | exact .inl rfl | exact .inr rfl) (fun _ h => h)) ?_; rfl)
      · refine Sat.back (y + 1) [] rfl ?_ ?_ ?_
        · (repeat' (first | exact AllP.nil | with_reducible refine AllP.cons ?_ ?_)) <;> first | exact rfl | exact trivial | exact Int.natCast_add_one _ | exact purX
        · refine ⟨by omega, fun k hk => ?_⟩
          rcases Nat.lt_succ_iff_lt_or_eq.1 hk with h1 | rfl
          · exact y2 k h1
          · simpa using h
        · omega
    obtain rfl : y = x := by omega
    repeat' (first
      | ((with_reducible apply Sat.run (X := X64)); exact rfl; (first | exact True.intro | (exact phi) | skip))
      | ((with_reducible apply Sat.cond_pf); exact rfl; (try dsimp only [V.EV.sub, V.EV.len]); first | assumption | omega) | fail)
    refine Sat.back (y + 1) [] rfl ?_ ?_ ?_
    · (repeat' (first | exact AllP.nil | with_reducible refine AllP.cons ?_ ?_)) <;> first | exact rfl | exact trivial | exact Int.natCast_add_one _ | exact purX
    · refine ⟨by omega, fun k hk => ?_⟩
      rcases Nat.lt_succ_iff_lt_or_eq.1 hk with h1 | rfl
      · exact x2 k h1
      · exact ⟨hs, y2⟩
    · omega
  · obtain rfl : x = l.length := by omega
    repeat' (first
      | ((with_reducible apply Sat.run (X := X64)); exact rfl; (first | exact True.intro | (exact phi) | skip)) | fail)
    with_reducible apply Sat.cond_pf
    · exact rfl
    · show ¬ (l.length : Int) < (l.length : Int); omega
    repeat' (first
      | ((with_reducible apply Sat.run (X := X64)); exact rfl; (first | exact True.intro | (exact phi) | skip)) | fail)
    (refine Sat.fin (Sat.end1 rfl rfl rfl True.intro (.refl _ purX) (by first | exact .inl rfl | exact .inr rfl) (fun _ h => h)) ?_; (refine congrArg SV.bool ?_; unfold validB; rw [decide_eq_true (p := l.length ≤ 8) (by omega), decide_eq_true x2]; rfl))
end Go.Proofs.YtokaegeediokoaaGreatDoor.Img
end
section
namespace Go.Proofs.YtokaegeediokoaaGreatDoor.Img
open Go.RowKit V
set_option maxRecDepth 100000
set_option maxHeartbeats 4000000
set_option linter.unusedSimpArgs false
def twinP (x y : SecL) : Bool := decide (y.name = x.name)
theorem twins (l : List SecL) (x : Nat) (hx : x ≤ l.length) (X : SecL) : (l.take x).any (twinP X) = false ↔ ∀ k, k < x → (l.getD k sec0).name ≠ X.name := by
  rw [List.any_eq_false]
  constructor
  · intro h k hk e
    refine h (l.getD k sec0) ?_ (decide_eq_true e)
    rw [List.getD_eq_getElem?_getD, List.getElem?_eq_getElem (by omega)]
    exact List.mem_take_iff_getElem.2 ⟨k, by omega, rfl⟩
  · intro h y hy e
    obtain ⟨k, hk, rfl⟩ := List.mem_take_iff_getElem.1 hy
    refine h k (by omega) ?_
    have e := of_decide_eq_true e
    rw [List.getD_eq_getElem?_getD, List.getElem?_eq_getElem (by omega)]
    exact e
theorem take_at (l : List SecL) (x i : Nat) (hi : i < x) : (l.take x).getD i sec0 = l.getD i sec0 := by
  rw [List.getD_eq_getElem?_getD, List.getD_eq_getElem?_getD, List.getElem?_take_of_lt hi]
theorem chain_f {nb d1 d2 d3 an : Bool} (h : (bif bif bif bif !nb then true else d1 then true else d2 then true else d3 then true else an) = false) : nb = true ∧ d1 = false ∧ d2 = false ∧ d3 = false ∧ an = false := by
  revert h
  cases nb <;> cases d1 <;> cases d2 <;> cases d3 <;> cases an <;> simp
theorem chain_t {nb d1 d2 d3 an : Bool} (h : (bif bif bif bif !nb then true else d1 then true else d2 then true else d3 then true else an) = true) : ¬ (nb = true ∧ d1 = false ∧ d2 = false ∧ d3 = false ∧ an = false) := by
  revert h
  cases nb <;> cases d1 <;> cases d2 <;> cases d3 <;> cases an <;> simp
attribute [local irreducible] V.Sat V.DSat
theorem containsTake (l : List SecL) (x : Nat) (hx : x ≤ l.length) (X : SecL) : Fun Tryz.prog [] 81 [.ro (.g x 4 fun i => [.str ((l.take x).getD i sec0).name, .int .i64 ((l.take x).getD i sec0).fr, .int .i64 ((l.take x).getD i sec0).to, .bool ((l.take x).getD i sec0).code]), .fn 145 [.rop (.g 1 4 fun _ => X.l) 0 0]] (.bool ((l.take x).any (twinP X))) := by
  have h := contains_sec (twinP X) 145 (.g 1 4 fun _ => X.l) (fun _ _ => ⟨trivial, trivial, trivial, trivial, trivial⟩) (by kernel_rfl) (twin_spec X) (l.take x)
  unfold secE at h
  rw [List.length_take, Nat.min_eq_left hx] at h
  exact h
theorem valid_spec (l : List SecL) (n : Int) : Fun Tryz.prog [] 78 [.ro (secE l), .int .i64 n] (.bool (validB l n)) := by
  refine Fun.mkF 7 Tryz.func78 rfl Tryz.ntmps78 rfl rfl fun hf T w0 => ?_
  obtain ⟨⟨hl, _⟩, _⟩ := hf
  have hl : l.length ≤ 9223372036854775807 := hl
  repeat' (first
    | ((with_reducible apply Sat.run (X := X64)); exact rfl; (first | exact True.intro | (exact phi) | skip)) | fail)
  apply Sat.loop (α := Nat) (fun x => x ≤ l.length ∧ ∀ i, i < x → SecP l n i) (fun x => l.length - x) 0 (fun x => [(5, .int .i64 (lastI l x)), (11, .int .i64 (x : Int))]) (fun _ => []) [] [] 0
  · intro x; exact rfl
  · intro x; exact rfl
  · exact rfl
  · exact rfl
  · (repeat' (first | exact AllP.nil | with_reducible refine AllP.cons ?_ ?_)) <;> first | exact rfl | exact trivial | exact purX
  · exact ⟨Nat.zero_le _, fun i hi => by omega⟩
  rintro x ⟨x1, x2⟩
  by_cases hx : x < l.length
  · have hcc : (x : Int) < ((secE l).len : Int) := by show (x : Int) < (l.length : Int); omega
    have hn := isName_spec (l.getD (x : Int).toNat sec0).name
    have hct := containsTake l x x1 (l.getD (x : Int).toNat sec0)
    have hno : ¬ SecP l n x → validB l n = false := fun h => by
      unfold validB
      rw [decide_eq_false (p := ∀ i, i < l.length → SecP l n i) fun e => h (e x hx), Bool.and_false]
    repeat' (first
      | ((with_reducible apply Sat.run (X := X64)); exact rfl; (first | exact True.intro | (exact phi) | skip))
      | ((with_reducible apply Sat.cond_pt); exact rfl; (try dsimp only [V.EV.sub, V.EV.len]); first | assumption | omega)
      | ((with_reducible apply Sat.callR (hn)); exact rfl; exact rfl; exact rfl; kernel_rfl; (exact cnvX); exact rfl) | fail)
    with_reducible apply Sat.callG1 hct
    · exact rfl
    · exact rfl
    · exact rfl
    · exact rfl
    · kernel_rfl
    · intro hG
      refine Convs.cons _ _ _ _ (.may _ _ _ hG (.gx _ x 4 _ _ (.refl _ ?_) ?_)) (Convs.cons _ _ _ _ (.may _ _ _ hG (.fn _ _ _ (.cons _ _ _ _ (.pr _ _ _ _ rfl ⟨trivial, trivial, trivial, trivial, trivial⟩ rfl (by decide)) .nil))) .nil)
      · intro _ _
        exact ⟨trivial, trivial, trivial, trivial, trivial⟩
      · intro i hi
        have e := take_at l x i hi
        rw [e]
        simp only [Option.getD_none, Nat.zero_add]
    · exact rfl
    repeat' (first
      | ((with_reducible apply Sat.run (X := X64)); exact rfl; (first | exact True.intro | (exact phi) | skip)) | fail)
    with_reducible apply Sat.cond
    · exact rfl
    · intro h
      rw [Int.toNat_natCast] at h
      have h := chain_t h
      rw [hno fun e => by
        obtain ⟨⟨e1, e2, e3, e4, e5⟩, e6⟩ := e
        exact h ⟨e1, decide_eq_false (by omega), decide_eq_false (by omega), decide_eq_false (by omega), (twins l x x1 _).2 e6⟩]
      repeat' (first
        | ((with_reducible apply Sat.run (X := X64)); exact rfl; (first | exact True.intro | (exact phi) | skip)) | fail)
      (refine Sat.fin (Sat.end1 rfl rfl rfl True.intro (.refl _ purX) (by first | exact .inl rfl | exact .inr rfl) (fun _ h => h)) ?_; rfl)
    intro h
    rw [Int.toNat_natCast] at h
    obtain ⟨c1, c2, c3, c4, c5⟩ := chain_f h
    have c2 := of_decide_eq_false c2
    have c3 := of_decide_eq_false c3
    have c4 := of_decide_eq_false c4
    have c5 := (twins l x x1 _).1 c5
    repeat' (first
      | ((with_reducible apply Sat.run (X := XN)); exact rfl; (first | exact True.intro | (exact phi) | skip)) | fail)
    with_reducible apply Sat.cond
    · exact rfl
    · intro h
      rw [Int.toNat_natCast] at h
      rw [hno fun e => by
        have e5 := e.1.2.2.2.2
        cases hcd : (l.getD x sec0).code with
        | false => rw [hcd] at h; cases h
        | true =>
          rw [hcd] at h
          obtain ⟨a1, a2⟩ := e5 hcd
          rw [a1, a2] at h
          simp at h]
      repeat' (first
        | ((with_reducible apply Sat.run (X := X64)); exact rfl; (first | exact True.intro | (exact phi) | skip)) | fail)
      (refine Sat.fin (Sat.end1 rfl rfl rfl True.intro (.refl _ purX) (by first | exact .inl rfl | exact .inr rfl) (fun _ h => h)) ?_; rfl)
    intro h
    rw [Int.toNat_natCast] at h
    repeat' (first
      | ((with_reducible apply Sat.run (X := X64)); exact rfl; (first | exact True.intro | (exact phi) | skip)) | fail)
    refine Sat.back (x + 1) [] rfl ?_ ?_ ?_
    · (repeat' (first | exact AllP.nil | with_reducible refine AllP.cons ?_ ?_)) <;> first | exact rfl | exact trivial | exact Int.natCast_add_one _ | exact purX
    · refine ⟨by omega, fun k hk => ?_⟩
      rcases Nat.lt_succ_iff_lt_or_eq.1 hk with h1 | rfl
      · exact x2 k h1
      · refine ⟨⟨c1, by omega, by omega, by omega, fun hcd => ?_⟩, c5⟩
        rw [hcd] at h
        have h : (bif decide ((l.getD k sec0).fr.tmod 4 ≠ 0) then true else decide ((l.getD k sec0).to.tmod 4 ≠ 0)) = false := h
        rw [Bool.cond_eq_ite] at h
        simpa using h
    · omega
  · obtain rfl : x = l.length := by omega
    repeat' (first
      | ((with_reducible apply Sat.run (X := X64)); exact rfl; (first | exact True.intro | (exact phi) | skip)) | fail)
    with_reducible apply Sat.cond_pf
    · exact rfl
    · show ¬ (l.length : Int) < (l.length : Int); omega
    repeat' (first
      | ((with_reducible apply Sat.run (X := X64)); exact rfl; (first | exact True.intro | (exact phi) | skip)) | fail)
    (refine Sat.fin (Sat.end1 rfl rfl rfl True.intro (.refl _ purX) (by first | exact .inl rfl | exact .inr rfl) (fun _ h => h)) ?_; (refine congrArg SV.bool ?_; unfold validB; rw [decide_eq_true x2, Bool.and_true]; exact decide_eq_decide.2 (by show l.length ≤ 8 ↔ (l.length : Int) ≤ 8; omega)))
end Go.Proofs.YtokaegeediokoaaGreatDoor.Img
end
section
namespace Go.Proofs.YtokaegeediokoaaGreatDoor.Img
open Go.RowKit V
set_option maxRecDepth 100000
set_option maxHeartbeats 4000000
set_option linter.unusedSimpArgs false
structure RawS where
  gap : UInt8
  words : UInt8
  odd : UInt8
  code : Bool
def raw0 : RawS := ⟨0, 0, 0, false⟩
@[reducible] def rawE (l : List RawS) : EV := .g l.length 4 fun i => [.int .u8 ((l.getD i raw0).gap.toNat : Int), .int .u8 ((l.getD i raw0).words.toNat : Int), .int .u8 ((l.getD i raw0).odd.toNat : Int), .bool (l.getD i raw0).code]
def nameS (i : Nat) : List UInt8 := [[98, 111, 111, 116], [97, 112, 112], [68, 97, 116, 97], [120, 49], [116, 97, 105, 108], [99, 102, 103], [65], [116, 119, 101, 108, 118, 101, 108, 101, 116, 116, 101, 114]].getD i []
def frS (at' : Int) (r : RawS) : Int := bif r.code then (at' + (r.gap.toNat % 8 : Nat) + 3) / 4 * 4 else at' + (r.gap.toNat % 8 : Nat)
def toS (at' : Int) (r : RawS) : Int := bif r.code then frS at' r + 4 + 4 * (r.words.toNat % 8 : Nat) else frS at' r + 1 + 4 * (r.words.toNat % 8 : Nat) + (r.odd.toNat % 4 : Nat)
def secS (i : Nat) (at' : Int) (r : RawS) : SecL := ⟨nameS i, frS at' r, toS at' r, r.code⟩
def madeS (n : Int) : Nat → Int → List RawS → List SecL
  | _, _, [] => []
  | i, at', r :: l => bif decide (n < toS at' r) then [] else secS i at' r :: madeS n (i + 1) (toS at' r) l
attribute [local irreducible] V.Sat V.DSat
theorem mod8 (b : UInt8) : (b.toNat : Int).tmod 8 = ((b.toNat % 8 : Nat) : Int) := rfl
theorem mod4 (b : UInt8) : (b.toNat : Int).tmod 4 = ((b.toNat % 4 : Nat) : Int) := rfl
theorem drop_step {α : Type} (l : List α) (d : α) (n i : Nat) (hi : i < n) (hl : i < l.length) : (l.take n).drop i = l.getD i d :: (l.take n).drop (i + 1) := by
  rw [List.drop_eq_getElem_cons (by rw [List.length_take]; omega), List.getElem_take, List.getD_eq_getElem?_getD, List.getElem?_eq_getElem hl]
  rfl
theorem drop_end {α : Type} (l : List α) (n i : Nat) (h : n ≤ i ∨ l.length ≤ i) : (l.take n).drop i = [] := List.drop_eq_nil_of_le (by rw [List.length_take]; omega)
theorem getD_app_l {α : Type} (l : List α) (x d : α) (i : Nat) (h : i < l.length) : (l ++ [x]).getD i d = l.getD i d := by
  simp [List.getD_eq_getElem?_getD, List.getElem?_append_left h]
theorem getD_app_r {α : Type} (l : List α) (x d : α) : (l ++ [x]).getD l.length d = x := by
  simp [List.getD_eq_getElem?_getD]
theorem row_snoc2 {α : Type} (F : α → List SV) (l : List α) (x d : α) : ∀ i, i < l.length + 1 → (if i < l.length then (fun i => F (l.getD i d)) i else (fun i => nthL [F x] (0 + i)) (i - l.length)) = F ((l ++ [x]).getD i d) := by
  intro i hi
  by_cases h : i < l.length
  · rw [if_pos h, getD_app_l _ _ _ _ h]
  · obtain rfl : i = l.length := by omega
    rw [if_neg h, getD_app_r]
    dsimp only
    rw [show 0 + (l.length - l.length) = 0 by omega]
    rfl
theorem pure_nth1 (x : List SV) (h : pureL x) : ∀ k, pureL (nthL [x] k)
  | 0 => h
  | _ + 1 => trivial
theorem toS_t (at' : Int) (r : RawS) (h : r.code = true) : toS at' r = (at' + (r.gap.toNat : Int).tmod 8 + 3) / 4 * 4 + 4 + 4 * (r.words.toNat : Int).tmod 8 ∧ frS at' r = (at' + (r.gap.toNat : Int).tmod 8 + 3) / 4 * 4 := by
  unfold toS frS
  rw [h]
  exact ⟨rfl, rfl⟩
theorem toS_f (at' : Int) (r : RawS) (h : r.code = false) : toS at' r = at' + (r.gap.toNat : Int).tmod 8 + 1 + 4 * (r.words.toNat : Int).tmod 8 + (r.odd.toNat : Int).tmod 4 ∧ frS at' r = at' + (r.gap.toNat : Int).tmod 8 := by
  unfold toS frS
  rw [h]
  exact ⟨rfl, rfl⟩
theorem toS_ge (at' : Int) (r : RawS) (h : 0 ≤ at') : 0 ≤ toS at' r := by
  unfold toS frS
  cases r.code
  · show 0 ≤ at' + _ + 1 + 4 * _ + _
    omega
  · show 0 ≤ (at' + _ + 3) / 4 * 4 + 4 + 4 * _
    omega
theorem made_spec (l : List RawS) (n : Int) (hn : 0 ≤ n ∧ n ≤ 1000) : Fun Tryz.prog [] 31 [.ro (rawE l), .int .i64 n] (.ro (secE (madeS n 0 0 (l.take 8)))) := by
  refine Fun.mkF 7 Tryz.func31 rfl Tryz.ntmps31 rfl rfl fun hf T w0 => ?_
  obtain ⟨⟨hl, _⟩, _⟩ := hf
  have hl : l.length ≤ 9223372036854775807 := hl
  repeat' (first
    | ((with_reducible apply Sat.run (X := X64)); exact rfl; (first | exact True.intro | (exact phi) | skip)) | fail)
  refine Sat.kill [10, 11] rfl ?_
  apply Sat.loop (α := Nat × Int × List SecL) (fun x => x.1 ≤ 8 ∧ x.1 ≤ l.length ∧ 0 ≤ x.2.1 ∧ x.2.1 ≤ n ∧ x.2.2.length = x.1 ∧ madeS n 0 0 (l.take 8) = x.2.2 ++ madeS n x.1 x.2.1 ((l.take 8).drop x.1)) (fun x => 8 - x.1) (0, 0, []) (fun x => [(6, .row 1 0 4 0 x.2.2.length), (7, .int .i64 x.2.1), (8, .int .i64 (x.1 : Int))]) (fun x => [(1, .row 84 (secE x.2.2)), (0, .row 9 (.g 8 1 fun i => [.str (nameS i)]))]) [] [] 0
  · intro x; exact rfl
  · intro x; exact rfl
  · exact rfl
  · exact rfl
  · (repeat' (first | exact AllP.nil | with_reducible refine AllP.cons ?_ ?_)) <;> first | exact rfl | exact trivial | exact ⟨rfl, rfl, rfl, rfl⟩ | (intro z hz; rcases z with _ | _ | _ | _ | _ | _ | _ | _ | z <;> first | rfl | (exfalso; omega)) | (intro z hz; rcases z with _ | _ | _ | _ | _ | _ | _ | _ | z <;> first | exact ⟨trivial, trivial⟩ | (exfalso; omega)) | (intro z hz; exact absurd hz (Nat.not_lt_zero _)) | exact purX
  · exact ⟨Nat.zero_le _, Nat.zero_le _, Int.le_refl _, hn.1, rfl, rfl⟩
  rintro ⟨i, at', acc⟩ ⟨x0, x1, x2, x3, x4, x5⟩
  dsimp only at x0 x1 x2 x3 x4 x5 ⊢
  by_cases hi : i < l.length ∧ i < 8
  · obtain ⟨hi1, hi2⟩ := hi
    have hcc : (i : Int) < ((rawE l).len : Int) := by show (i : Int) < (l.length : Int); omega
    have g1 := mod8 (l.getD ((i : Int).toNat) raw0).gap
    have g2 := mod8 (l.getD ((i : Int).toNat) raw0).words
    have g3 := mod4 (l.getD ((i : Int).toNat) raw0).odd
    repeat' (first
      | ((with_reducible apply Sat.run (X := X64)); exact rfl; (first | exact True.intro | (exact phi) | skip)) | fail)
    with_reducible apply Sat.cond
    · exact rfl
    · intro h
      clear h
      repeat' (first
        | ((with_reducible apply Sat.run (X := X64)); exact rfl; (first | exact True.intro | (exact phi) | skip))
        | ((with_reducible apply Sat.drawn); kernel_rfl)
        | ((with_reducible apply DSat.run (X := X64)); exact rfl; (first | exact True.intro | (exact phi) | skip))
        | ((with_reducible apply DSat.fin); kernel_rfl)
        | ((with_reducible apply Sat.cond_p); exact rfl; all_goals intro h)
        | ((with_reducible apply Sat.cond); exact rfl; all_goals intro h) | fail)
      · rename_i hcd
        rw [Int.toNat_natCast] at h hcd
        have ht := (toS_t at' (l.getD i raw0) hcd).1
        have hM : madeS n 0 0 (l.take 8) = acc := by
          rw [x5, drop_step l raw0 8 i hi2 hi1, madeS, ht, decide_eq_true h]
          exact List.append_nil _
        rw [hM]
        refine Sat.fin (Sat.end1 rfl rfl rfl True.intro (.all _ _ _ _ _ rfl rfl rfl (by intro _ _; simp [pureL, pureS, pureE])) (by first | exact .inl rfl | exact .inr rfl) (fun _ h => h)) rfl
      · rename_i hcd
        rw [Int.toNat_natCast] at h hcd
        obtain ⟨ht, hfr⟩ := toS_t at' (l.getD i raw0) hcd
        have hge := toS_ge at' (l.getD i raw0) x2
        rw [Int.toNat_natCast, hcd, ← ht, ← hfr]
        rw [← ht] at h
        refine Sat.back (i + 1, toS at' (l.getD i raw0), acc ++ [secS i at' (l.getD i raw0)]) [(1, some 4)] rfl ?_ ?_ ?_
        · (repeat' (first | exact AllP.nil | with_reducible refine AllP.cons ?_ ?_)) <;> first | with_reducible exact rfl | exact Int.natCast_add_one _ | exact rfl | exact trivial | exact ⟨rfl, rfl, rfl, by simp [EV.len, EV.sub]⟩ | (show acc.length + 1 = (acc ++ [secS i at' (l.getD i raw0)]).length; simp; done) | (intro z hz; refine (row_snoc2 (fun x : SecL => [.str x.name, .int .i64 x.fr, .int .i64 x.to, .bool x.code]) acc ⟨nameS (0 + i), frS at' (l.getD i raw0), toS at' (l.getD i raw0), true⟩ sec0 z hz).trans ?_; rw [show (⟨nameS (0 + i), frS at' (l.getD i raw0), toS at' (l.getD i raw0), true⟩ : SecL) = secS i at' (l.getD i raw0) from by rw [Nat.zero_add, secS, hcd]]) | exact purX | (intro _ _; exact rfl) | (intro _ _; dsimp only; split <;> first | (simp [pureL, pureS, pureE]; done) | exact pure_nth1 _ (by simp [pureL, pureS, pureE]) _) | (intro _ _; exact pure_nth1 _ (by simp [pureL, pureS, pureE]) _)
        · refine ⟨by dsimp only; omega, by dsimp only; omega, by dsimp only; omega, by dsimp only; omega, by simp only [List.length_append, List.length_cons, List.length_nil]; omega, ?_⟩
          dsimp only
          rw [x5, drop_step l raw0 8 i hi2 hi1]
          conv => lhs; rw [madeS]
          rw [decide_eq_false h]
          simp only [cond_false, List.append_assoc, List.cons_append, List.nil_append]
        · dsimp only; omega
      · rename_i hcd
        rw [Int.toNat_natCast] at h hcd
        have ht := (toS_f at' (l.getD i raw0) hcd).1
        have hM : madeS n 0 0 (l.take 8) = acc := by
          rw [x5, drop_step l raw0 8 i hi2 hi1, madeS, ht, decide_eq_true h]
          exact List.append_nil _
        rw [hM]
        refine Sat.fin (Sat.end1 rfl rfl rfl True.intro (.all _ _ _ _ _ rfl rfl rfl (by intro _ _; simp [pureL, pureS, pureE])) (by first | exact .inl rfl | exact .inr rfl) (fun _ h => h)) rfl
      · rename_i hcd
        rw [Int.toNat_natCast] at h hcd
        obtain ⟨ht, hfr⟩ := toS_f at' (l.getD i raw0) hcd
        have hge := toS_ge at' (l.getD i raw0) x2
        rw [Int.toNat_natCast, hcd, ← ht, ← hfr]
        rw [← ht] at h
        refine Sat.back (i + 1, toS at' (l.getD i raw0), acc ++ [secS i at' (l.getD i raw0)]) [(1, some 4)] rfl ?_ ?_ ?_
        · (repeat' (first | exact AllP.nil | with_reducible refine AllP.cons ?_ ?_)) <;> first | with_reducible exact rfl | exact Int.natCast_add_one _ | exact rfl | exact trivial | exact ⟨rfl, rfl, rfl, by simp [EV.len, EV.sub]⟩ | (show acc.length + 1 = (acc ++ [secS i at' (l.getD i raw0)]).length; simp; done) | (intro z hz; refine (row_snoc2 (fun x : SecL => [.str x.name, .int .i64 x.fr, .int .i64 x.to, .bool x.code]) acc ⟨nameS (0 + i), frS at' (l.getD i raw0), toS at' (l.getD i raw0), false⟩ sec0 z hz).trans ?_; rw [show (⟨nameS (0 + i), frS at' (l.getD i raw0), toS at' (l.getD i raw0), false⟩ : SecL) = secS i at' (l.getD i raw0) from by rw [Nat.zero_add, secS, hcd]]) | exact purX | (intro _ _; exact rfl) | (intro _ _; dsimp only; split <;> first | (simp [pureL, pureS, pureE]; done) | exact pure_nth1 _ (by simp [pureL, pureS, pureE]) _) | (intro _ _; exact pure_nth1 _ (by simp [pureL, pureS, pureE]) _)
        · refine ⟨by dsimp only; omega, by dsimp only; omega, by dsimp only; omega, by dsimp only; omega, by simp only [List.length_append, List.length_cons, List.length_nil]; omega, ?_⟩
          dsimp only
          rw [x5, drop_step l raw0 8 i hi2 hi1]
          conv => lhs; rw [madeS]
          rw [decide_eq_false h]
          simp only [cond_false, List.append_assoc, List.cons_append, List.nil_append]
        · dsimp only; omega
    · intro h
      exfalso
      have hq : decide ((i : Int) < ((rawE l).len : Int)) = true := decide_eq_true hcc
      have hq2 : decide ((i : Int) < 8) = true := decide_eq_true (by omega)
      rw [hq, hq2] at h
      cases h
  · have hd : (l.take 8).drop i = [] := drop_end l 8 i (by omega)
    have hM : madeS n 0 0 (l.take 8) = acc := by
      rw [x5, hd, madeS]
      exact List.append_nil _
    rw [hM]
    repeat' (first
      | ((with_reducible apply Sat.run (X := X64)); exact rfl; (first | exact True.intro | (exact phi) | skip)) | fail)
    with_reducible apply Sat.cond
    · exact rfl
    · intro h
      exfalso
      rcases (by omega : 8 ≤ i ∨ l.length ≤ i) with he | he
      · rw [decide_eq_false (show ¬ (i : Int) < 8 by omega)] at h
        revert h
        cases decide ((i : Int) < ((rawE l).len : Int)) <;> exact fun h => (by cases h)
      · rw [decide_eq_false (show ¬ (i : Int) < ((rawE l).len : Int) by show ¬ (i : Int) < (l.length : Int); omega)] at h
        cases h
    intro h
    clear h
    repeat' (first
      | ((with_reducible apply Sat.run (X := X64)); exact rfl; (first | exact True.intro | (exact phi) | skip)) | fail)
    refine Sat.fin (Sat.end1 rfl rfl rfl True.intro (.all _ _ _ _ _ rfl rfl rfl (by intro _ _; simp [pureL, pureS, pureE])) (by first | exact .inl rfl | exact .inr rfl) (fun _ h => h)) rfl
end Go.Proofs.YtokaegeediokoaaGreatDoor.Img
end
section
namespace Go.Proofs.YtokaegeediokoaaGreatDoor
open Go.RowKit V Img
set_option maxRecDepth 100000
set_option maxHeartbeats 8000000
set_option linter.unusedSimpArgs false
def cutB (b : List UInt8) (y : SecL) : List UInt8 := (b.drop y.fr.toNat).take (y.to.toNat - y.fr.toNat)
def secPart (b : List UInt8) (p : PartL) (y : SecL) : Bool := decide (y.name = p.name) && decide (sha (cutB b y) = p.hash)
def partsB (ps : List PartL) (b : List UInt8) (l : List SecL) : Bool := Img.validB l b.length && ps.all fun p => l.any (secPart b p)
@[reducible] def partC (p : PartL) : List SV := [.str p.name, .arr 32 (.u8 p.hash)]
structure Fits (b : List UInt8) (y : SecL) : Prop where
  low : 0 ≤ y.fr
  ord : y.fr ≤ y.to
  top : y.to ≤ b.length
attribute [local irreducible] V.Sat V.DSat
theorem c2_spec (b : List UInt8) (hb : b.length ≤ 1000000) (p : PartL) (y : SecL) (hy : Fits b y) : Fun Tryz.prog Γh 82 [y.v, .rop (.g 1 33 fun _ => partC p) 0 0, .rop (.g 1 1 fun _ => [.ro (.u8 b)]) 0 0] (.bool (secPart b p y)) := by
  obtain ⟨h1, h2, h3⟩ := hy
  have hlen : (cutB b y).length ≤ 1000000 := by unfold cutB; rw [List.length_take, List.length_drop]; omega
  have hs := psum_spec (cutB b y) (by omega)
  unfold cutB at hs
  refine Fun.mk 6 Tryz.func82 rfl Tryz.ntmps82 rfl rfl fun T w0 => ?_
  repeat' (first
    | ((with_reducible apply Sat.run (X := X64)); exact rfl; (first | exact True.intro | (exact phi) | skip))
    | ((with_reducible apply Sat.drawn); kernel_rfl)
    | ((with_reducible apply DSat.run (X := X64)); exact rfl; (first | exact True.intro | (exact phi) | skip))
    | ((with_reducible apply DSat.fin); kernel_rfl)
    | ((with_reducible apply DSat.callG1 (hs)); exact rfl; exact rfl; exact rfl; exact rfl; kernel_rfl; (intro hG; (exact cnvX)); exact rfl) | fail)
  (refine Sat.fin (Sat.end1 rfl rfl rfl True.intro (.refl _ purX) (by first | exact .inl rfl | exact .inr rfl) (fun _ h => h)) ?_; (unfold secPart cutB; cases decide (y.name = p.name) <;> rfl))
theorem sidx_spec (p : SecL → Bool) (f : FuncId) (e1 e2 : EV) (h1 : pureE e1) (h2 : pureE e2) (hcl : callable Tryz.prog f = true) (l : List SecL) (hp : ∀ i, i < l.length → Fun Tryz.prog Γh f [.agg (SecL.l (l.getD i sec0)), .rop e1 0 0, .rop e2 0 0] (.bool (p (l.getD i sec0)))) : Fun Tryz.prog Γh 148 [.ro (secE l), .fn f [.rop e1 0 0, .rop e2 0 0]] (.int .i64 (idxL p l 0)) := by
  refine Fun.mkF 6 Tryz.func148 rfl Tryz.ntmps148 rfl rfl fun hf T w0 => ?_
  obtain ⟨⟨hl, _⟩, _⟩ := hf
  have hl : l.length ≤ 9223372036854775807 := hl
  repeat' (first
    | ((with_reducible apply Sat.run (X := X64)); exact rfl; (first | exact True.intro | (exact phi) | skip)) | fail)
  apply Sat.loop (α := Nat) (fun x => x ≤ l.length ∧ ∀ i, i < x → p (l.getD i sec0) = false) (fun x => l.length - x) 0 (fun x => [(8, .int .i64 (x : Int))]) (fun _ => []) [] [] 0
  · intro x; exact rfl
  · intro x; exact rfl
  · exact rfl
  · exact rfl
  · (repeat' (first | exact AllP.nil | with_reducible refine AllP.cons ?_ ?_)) <;> first | exact rfl | exact trivial | exact h1 | exact h2 | exact purX
  · exact ⟨Nat.zero_le _, fun i hi => by omega⟩
  · rintro x ⟨x1, x2⟩
    by_cases hx : x < l.length
    · have hc := hp (x : Int).toNat (by omega)
      have hcc : (x : Int) < ((secE l).len : Int) := by show (x : Int) < (l.length : Int); omega
      cases hv : p (l.getD (x : Int).toNat sec0) with
      | true =>
        rw [hv] at hc
        repeat' (first
          | ((with_reducible apply Sat.run (X := X64)); exact rfl; (first | exact True.intro | (exact phi) | skip))
          | ((with_reducible apply Sat.cond_t); exact rfl)
          | ((with_reducible apply Sat.cond_pt); exact rfl; (try dsimp only [V.EV.sub, V.EV.len]); first | assumption | omega)
          | ((with_reducible apply Sat.callR (hc)); exact rfl; exact rfl; exact rfl; exact hcl; (exact cnvX); exact rfl) | fail)
        (refine Sat.fin (Sat.end1 rfl rfl rfl True.intro (.refl _ purX) (by first | exact .inl rfl | exact .inr rfl) (fun _ h => h)) ?_; (rw [idxL_at p sec0 l 0 x x2 hx hv, Nat.zero_add]))
      | false =>
        rw [hv] at hc
        repeat' (first
          | ((with_reducible apply Sat.run (X := X64)); exact rfl; (first | exact True.intro | (exact phi) | skip))
          | ((with_reducible apply Sat.cond_f); exact rfl)
          | ((with_reducible apply Sat.cond_pt); exact rfl; (try dsimp only [V.EV.sub, V.EV.len]); first | assumption | omega)
          | ((with_reducible apply Sat.callR (hc)); exact rfl; exact rfl; exact rfl; exact hcl; (exact cnvX); exact rfl) | fail)
        refine Sat.back (x + 1) [] rfl ?_ ?_ ?_
        · (repeat' (first | exact AllP.nil | with_reducible refine AllP.cons ?_ ?_)) <;> first | exact rfl | exact trivial | exact Int.natCast_add_one _ | exact h1 | exact h2 | exact purX
        · refine ⟨by omega, fun i hi => ?_⟩
          rcases Nat.lt_succ_iff_lt_or_eq.1 hi with h1 | rfl
          · exact x2 i h1
          · exact hv
        · omega
    · have hx2 : x = l.length := by omega
      subst hx2
      repeat' (first
        | ((with_reducible apply Sat.run (X := X64)); exact rfl; (first | exact True.intro | (exact phi) | skip)) | fail)
      with_reducible apply Sat.cond_pf
      · exact rfl
      · show ¬ (l.length : Int) < (l.length : Int); omega
      repeat' (first
        | ((with_reducible apply Sat.run (X := X64)); exact rfl; (first | exact True.intro | (exact phi) | skip)) | fail)
      (refine Sat.fin (Sat.end1 rfl rfl rfl True.intro (.refl _ purX) (by first | exact .inl rfl | exact .inr rfl) (fun _ h => h)) ?_; (rw [idxL_none p sec0 l 0 x2]))
theorem scont_spec (p : SecL → Bool) (f : FuncId) (e1 e2 : EV) (h1 : pureE e1) (h2 : pureE e2) (hcl : callable Tryz.prog f = true) (l : List SecL) (hp : ∀ i, i < l.length → Fun Tryz.prog Γh f [.agg (SecL.l (l.getD i sec0)), .rop e1 0 0, .rop e2 0 0] (.bool (p (l.getD i sec0)))) : Fun Tryz.prog Γh 81 [.ro (secE l), .fn f [.rop e1 0 0, .rop e2 0 0]] (.bool (l.any p)) := by
  have hi := sidx_spec p f e1 e2 h1 h2 hcl l hp
  refine Fun.mk 6 Tryz.func81 rfl Tryz.ntmps81 rfl rfl fun T w0 => ?_
  repeat' (first
    | ((with_reducible apply Sat.run (X := X64)); exact rfl; (first | exact True.intro | (exact phi) | skip))
    | ((with_reducible apply Sat.callR (hi)); exact rfl; exact rfl; exact rfl; kernel_rfl; (exact cnvX); exact rfl) | fail)
  (refine Sat.fin (Sat.end1 rfl rfl rfl True.intro (.refl _ purX) (by first | exact .inl rfl | exact .inr rfl) (fun _ h => h)) ?_; (rw [idxL_any]))
theorem pidx_spec (p : PartL → Bool) (f : FuncId) (e1 e2 : EV) (h1 : pureE e1) (h2 : pureE e2) (hcl : callable Tryz.prog f = true) (l : List PartL) (hp : ∀ i, i < l.length → Fun Tryz.prog Γh f [.agg (partC (l.getD i part0)), .rop e1 0 0, .rop e2 0 0] (.bool (p (l.getD i part0)))) : Fun Tryz.prog Γh 147 [.ro (partsE l), .fn f [.rop e1 0 0, .rop e2 0 0]] (.int .i64 (idxL p l 0)) := by
  refine Fun.mkF 6 Tryz.func147 rfl Tryz.ntmps147 rfl rfl fun hf T w0 => ?_
  obtain ⟨⟨hl, _⟩, _⟩ := hf
  have hl : l.length ≤ 9223372036854775807 := hl
  repeat' (first
    | ((with_reducible apply Sat.run (X := X64)); exact rfl; (first | exact True.intro | (exact phi) | skip)) | fail)
  apply Sat.loop (α := Nat) (fun x => x ≤ l.length ∧ ∀ i, i < x → p (l.getD i part0) = false) (fun x => l.length - x) 0 (fun x => [(8, .int .i64 (x : Int))]) (fun _ => []) [] [] 0
  · intro x; exact rfl
  · intro x; exact rfl
  · exact rfl
  · exact rfl
  · (repeat' (first | exact AllP.nil | with_reducible refine AllP.cons ?_ ?_)) <;> first | exact rfl | exact trivial | exact h1 | exact h2 | exact purX
  · exact ⟨Nat.zero_le _, fun i hi => by omega⟩
  · rintro x ⟨x1, x2⟩
    by_cases hx : x < l.length
    · have hc := hp (x : Int).toNat (by omega)
      have hcc : (x : Int) < ((partsE l).len : Int) := by show (x : Int) < (l.length : Int); omega
      cases hv : p (l.getD (x : Int).toNat part0) with
      | true =>
        rw [hv] at hc
        repeat' (first
          | ((with_reducible apply Sat.run (X := X64)); exact rfl; (first | exact True.intro | (exact phi) | skip))
          | ((with_reducible apply Sat.cond_t); exact rfl)
          | ((with_reducible apply Sat.cond_pt); exact rfl; (try dsimp only [V.EV.sub, V.EV.len]); first | assumption | omega)
          | ((with_reducible apply Sat.callR (hc)); exact rfl; exact rfl; exact rfl; exact hcl; (exact cnvX); exact rfl) | fail)
        (refine Sat.fin (Sat.end1 rfl rfl rfl True.intro (.refl _ purX) (by first | exact .inl rfl | exact .inr rfl) (fun _ h => h)) ?_; (rw [idxL_at p part0 l 0 x x2 hx hv, Nat.zero_add]))
      | false =>
        rw [hv] at hc
        repeat' (first
          | ((with_reducible apply Sat.run (X := X64)); exact rfl; (first | exact True.intro | (exact phi) | skip))
          | ((with_reducible apply Sat.cond_f); exact rfl)
          | ((with_reducible apply Sat.cond_pt); exact rfl; (try dsimp only [V.EV.sub, V.EV.len]); first | assumption | omega)
          | ((with_reducible apply Sat.callR (hc)); exact rfl; exact rfl; exact rfl; exact hcl; (exact cnvX); exact rfl) | fail)
        refine Sat.back (x + 1) [] rfl ?_ ?_ ?_
        · (repeat' (first | exact AllP.nil | with_reducible refine AllP.cons ?_ ?_)) <;> first | exact rfl | exact trivial | exact Int.natCast_add_one _ | exact h1 | exact h2 | exact purX
        · refine ⟨by omega, fun i hi => ?_⟩
          rcases Nat.lt_succ_iff_lt_or_eq.1 hi with h1 | rfl
          · exact x2 i h1
          · exact hv
        · omega
    · have hx2 : x = l.length := by omega
      subst hx2
      repeat' (first
        | ((with_reducible apply Sat.run (X := X64)); exact rfl; (first | exact True.intro | (exact phi) | skip)) | fail)
      with_reducible apply Sat.cond_pf
      · exact rfl
      · show ¬ (l.length : Int) < (l.length : Int); omega
      repeat' (first
        | ((with_reducible apply Sat.run (X := X64)); exact rfl; (first | exact True.intro | (exact phi) | skip)) | fail)
      (refine Sat.fin (Sat.end1 rfl rfl rfl True.intro (.refl _ purX) (by first | exact .inl rfl | exact .inr rfl) (fun _ h => h)) ?_; (rw [idxL_none p part0 l 0 x2]))
theorem pcont_spec (p : PartL → Bool) (f : FuncId) (e1 e2 : EV) (h1 : pureE e1) (h2 : pureE e2) (hcl : callable Tryz.prog f = true) (l : List PartL) (hp : ∀ i, i < l.length → Fun Tryz.prog Γh f [.agg (partC (l.getD i part0)), .rop e1 0 0, .rop e2 0 0] (.bool (p (l.getD i part0)))) : Fun Tryz.prog Γh 79 [.ro (partsE l), .fn f [.rop e1 0 0, .rop e2 0 0]] (.bool (l.any p)) := by
  have hi := pidx_spec p f e1 e2 h1 h2 hcl l hp
  refine Fun.mk 6 Tryz.func79 rfl Tryz.ntmps79 rfl rfl fun T w0 => ?_
  repeat' (first
    | ((with_reducible apply Sat.run (X := X64)); exact rfl; (first | exact True.intro | (exact phi) | skip))
    | ((with_reducible apply Sat.callR (hi)); exact rfl; exact rfl; exact rfl; kernel_rfl; (exact cnvX); exact rfl) | fail)
  (refine Sat.fin (Sat.end1 rfl rfl rfl True.intro (.refl _ purX) (by first | exact .inl rfl | exact .inr rfl) (fun _ h => h)) ?_; (rw [idxL_any]))
theorem c1_spec (b : List UInt8) (hb : b.length ≤ 1000000) (l : List SecL) (hl : ∀ i, i < l.length → Fits b (l.getD i sec0)) (p : PartL) : Fun Tryz.prog Γh 80 [.agg (partC p), .rop (.g 1 1 fun _ => [.ro (secE l)]) 0 0, .rop (.g 1 1 fun _ => [.ro (.u8 b)]) 0 0] (.bool (!l.any (secPart b p))) := by
  have hc := scont_spec (secPart b p) 82 (.g 1 33 fun _ => partC p) (.g 1 1 fun _ => [.ro (.u8 b)]) (fun _ _ => ⟨trivial, trivial, trivial⟩) (fun _ _ => ⟨trivial, trivial⟩) (by kernel_rfl) l (fun i hi => c2_spec b hb p _ (hl i hi))
  refine Fun.mk 6 Tryz.func80 rfl Tryz.ntmps80 rfl rfl fun T w0 => ?_
  repeat' (first
    | ((with_reducible apply Sat.run (X := X64)); exact rfl; (first | exact True.intro | (exact phi) | skip))
    | ((with_reducible apply Sat.callR (hc)); exact rfl; exact rfl; exact rfl; kernel_rfl; (exact cnvX); exact rfl) | fail)
  (refine Sat.fin (Sat.end1 rfl rfl rfl True.intro (.refl _ purX) (by first | exact .inl rfl | exact .inr rfl) (fun _ h => h)) ?_; rfl)
theorem any_not {α : Type} (q : α → Bool) : ∀ l : List α, (!l.any fun x => !q x) = l.all q
  | [] => rfl
  | x :: l => by
    rw [List.any_cons, List.all_cons, ← any_not q l]
    cases q x <;> simp
theorem parts_spec (t : TrustL) (r : Rel) (b : List UInt8) (hb : b.length ≤ 1000000) (l : List SecL) (hl : Img.validB l b.length = true → ∀ i, i < l.length → Fits b (l.getD i sec0)) : Fun Tryz.prog Γh 34 [t.v, .agg (relC r), .ro (.u8 b), .ro (secE l)] (.bool (partsB r.parts b l)) := by
  have hv := (Img.valid_spec l b.length).weak (Γ := Γh)
  unfold partsB
  cases hq : Img.validB l b.length with
  | false =>
    rw [hq] at hv
    refine Fun.mk 6 Tryz.func34 rfl Tryz.ntmps34 rfl rfl fun T w0 => ?_
    repeat' (first
      | ((with_reducible apply Sat.run (X := X64)); exact rfl; (first | exact True.intro | (exact phi) | skip))
      | ((with_reducible apply Sat.cond_t); exact rfl)
      | ((with_reducible apply Sat.callR (hv)); exact rfl; exact rfl; exact rfl; kernel_rfl; (exact cnvX); exact rfl) | fail)
    (refine Sat.fin (Sat.end1 rfl rfl rfl True.intro (.refl _ purX) (by first | exact .inl rfl | exact .inr rfl) (fun _ h => h)) ?_; rfl)
  | true =>
    rw [hq] at hv
    have hc := pcont_spec (fun p => !l.any (secPart b p)) 80 (.g 1 1 fun _ => [.ro (secE l)]) (.g 1 1 fun _ => [.ro (.u8 b)]) (fun _ _ => ⟨fun _ _ => ⟨trivial, trivial, trivial, trivial, trivial⟩, trivial⟩) (fun _ _ => ⟨trivial, trivial⟩) (by kernel_rfl) r.parts (fun i _ => c1_spec b hb l (hl hq) _)
    refine Fun.mk 6 Tryz.func34 rfl Tryz.ntmps34 rfl rfl fun T w0 => ?_
    repeat' (first
      | ((with_reducible apply Sat.run (X := X64)); exact rfl; (first | exact True.intro | (exact phi) | skip))
      | ((with_reducible apply Sat.cond_f); exact rfl)
      | ((with_reducible apply Sat.callR (hv)); exact rfl; exact rfl; exact rfl; kernel_rfl; (exact cnvX); exact rfl)
      | ((with_reducible apply Sat.callR (hc)); exact rfl; exact rfl; exact rfl; kernel_rfl; (exact cnvX); exact rfl) | fail)
    (refine Sat.fin (Sat.end1 rfl rfl rfl True.intro (.refl _ purX) (by first | exact .inl rfl | exact .inr rfl) (fun _ h => h)) ?_; (rw [Bool.true_and, any_not]))
end Go.Proofs.YtokaegeediokoaaGreatDoor
end
section
namespace Go.Proofs.YtokaegeediokoaaGreatDoor
open Go.RowKit V Img
set_option maxRecDepth 100000
set_option maxHeartbeats 8000000
set_option linter.unusedSimpArgs false
def anyK (q : SecL → Bool) (l : List SecL) : Nat → Bool
  | 0 => false
  | k + 1 => bif anyK q l k then true else q (l.getD k sec0)
theorem anyK_eq (q : SecL → Bool) (l : List SecL) : ∀ k, k ≤ l.length → anyK q l k = (l.take k).any q
  | 0, _ => rfl
  | k + 1, h => by
    rw [anyK, anyK_eq q l k (by omega), List.take_add_one, List.any_append, List.getElem?_eq_getElem (show k < l.length by omega), List.getD_eq_getElem?_getD, List.getElem?_eq_getElem (show k < l.length by omega)]
    cases (l.take k).any q <;> simp
attribute [local irreducible] V.Sat V.DSat
theorem rparts_spec (r : Rel) (b : List UInt8) (hb : b.length ≤ 1000000) (l : List SecL) (hl : Img.validB l b.length = true → ∀ i, i < l.length → Fits b (l.getD i sec0)) : Fun Tryz.prog Γh 35 [.agg (relC r), .agg [.ro (.u8 b), .ro (secE l)]] (.bool (partsB r.parts b l)) := by
  have hv := (Img.valid_ref l b.length).weak (Γ := Γh)
  cases hq : Img.validB l b.length with
  | false =>
    rw [hq] at hv
    have e : partsB r.parts b l = false := by unfold partsB; rw [hq]; rfl
    rw [e]
    refine Fun.mk 7 Tryz.func35 rfl Tryz.ntmps35 rfl rfl fun T w0 => ?_
    repeat' (first
      | ((with_reducible apply Sat.run (X := X64)); exact rfl; (first | exact True.intro | (exact phi) | skip))
      | ((with_reducible apply Sat.cond_t); exact rfl)
      | ((with_reducible apply Sat.callR (hv)); exact rfl; exact rfl; exact rfl; kernel_rfl; (exact cnvX); exact rfl) | fail)
    (refine Sat.fin (Sat.end1 rfl rfl rfl True.intro (.refl _ purX) (by first | exact .inl rfl | exact .inr rfl) (fun _ h => h)) ?_; rfl)
  | true =>
    rw [hq] at hv
    have hfit := hl hq
    have h8 : l.length ≤ 8 := by
      unfold Img.validB at hq
      simp only [Bool.and_eq_true, decide_eq_true_eq] at hq
      exact hq.1
    have hfin : (∀ i, i < r.parts.length → l.any (secPart b (r.parts.getD i part0)) = true) → partsB r.parts b l = true := fun h => by
      unfold partsB
      rw [hq, Bool.true_and, List.all_eq_true]
      intro p hp
      obtain ⟨i, hi, rfl⟩ := List.mem_iff_getElem.1 hp
      have := h i hi
      rw [List.getD_eq_getElem?_getD, List.getElem?_eq_getElem hi] at this
      exact this
    have hno : ∀ i, i < r.parts.length → l.any (secPart b (r.parts.getD i part0)) = false → partsB r.parts b l = false := fun i hi h => by
      unfold partsB
      rw [hq, Bool.true_and, Bool.eq_false_iff]
      intro hh
      have h2 := List.all_eq_true.1 hh (r.parts.getD i part0) (by
        rw [List.getD_eq_getElem?_getD, List.getElem?_eq_getElem hi]
        exact List.getElem_mem _)
      rw [h] at h2
      cases h2
    refine Fun.mkF 7 Tryz.func35 rfl Tryz.ntmps35 rfl rfl fun hf T w0 => ?_
    obtain ⟨⟨_, _, _, _, _, _, _, _, ⟨hpl, _⟩, _⟩, _⟩ := hf
    have hpl : r.parts.length ≤ 9223372036854775807 := hpl
    repeat' (first
      | ((with_reducible apply Sat.run (X := X64)); exact rfl; (first | exact True.intro | (exact phi) | skip))
      | ((with_reducible apply Sat.cond_f); exact rfl)
      | ((with_reducible apply Sat.callR (hv)); exact rfl; exact rfl; exact rfl; kernel_rfl; (exact cnvX); exact rfl) | fail)
    apply Sat.loop (α := Nat) (fun x => x ≤ r.parts.length ∧ ∀ i, i < x → l.any (secPart b (r.parts.getD i part0)) = true) (fun x => r.parts.length - x) 0 (fun x => [(5, .int .i64 (x : Int))]) (fun _ => []) [] [] 0
    · intro x; exact rfl
    · intro x; exact rfl
    · exact rfl
    · exact rfl
    · ((repeat' (first | exact AllP.nil | with_reducible refine AllP.cons ?_ ?_)) <;> first | exact rfl | exact trivial | exact Int.natCast_add_one _ | (intro j _; simp [pureL, pureS, pureE]; done) | exact ⟨rfl, rfl, rfl, rfl⟩)
    · exact ⟨Nat.zero_le _, fun i hi => absurd hi (Nat.not_lt_zero _)⟩
    rintro x ⟨x1, x2⟩
    by_cases hx : x < r.parts.length
    · have hc : (x : Int) < (r.parts.length : Int) := by omega
      repeat' (first
        | ((with_reducible apply Sat.run (X := X64)); exact rfl; (first | exact True.intro | (exact phi) | skip))
        | ((with_reducible apply Sat.cond_pt); exact rfl; (try dsimp only [V.EV.sub, V.EV.len]); first | assumption | omega) | fail)
      apply Sat.loop (α := Nat) (fun k => k ≤ l.length) (fun k => l.length - k) 0 (fun k => [(7, .int .i64 (k : Int)), (6, .bool (anyK (secPart b (r.parts.getD x part0)) l k))]) (fun _ => []) [] [] 0
      · intro x; exact rfl
      · intro x; exact rfl
      · exact rfl
      · exact rfl
      · ((repeat' (first | exact AllP.nil | with_reducible refine AllP.cons ?_ ?_)) <;> first | exact rfl | exact trivial | exact Int.natCast_add_one _ | (intro j _; simp [pureL, pureS, pureE]; done) | exact ⟨rfl, rfl, rfl, rfl⟩)
      · exact Nat.zero_le _
      intro k hk
      by_cases hk2 : k < l.length
      · have hc2 : (k : Int) < (l.length : Int) := by omega
        obtain ⟨f1, f2, f3⟩ := hfit (k : Int).toNat (by omega)
        have hlen : (cutB b (l.getD (k : Int).toNat sec0)).length ≤ 1000000 := by unfold cutB; rw [List.length_take, List.length_drop]; omega
        have hs := rsumh (cutB b (l.getD (k : Int).toNat sec0)) (by omega)
        unfold cutB at hs
        repeat' (first
          | ((with_reducible apply Sat.run (X := X64)); exact rfl; (first | exact True.intro | (exact phi) | skip))
          | ((with_reducible apply Sat.drawn); kernel_rfl)
          | ((with_reducible apply DSat.run (X := X64)); exact rfl; (first | exact True.intro | (exact phi) | skip))
          | ((with_reducible apply DSat.fin); kernel_rfl)
          | ((with_reducible apply Sat.cond_pt); exact rfl; (try dsimp only [V.EV.sub, V.EV.len]); first | assumption | omega)
          | ((with_reducible apply DSat.callG1 (hs)); exact rfl; exact rfl; exact rfl; exact rfl; kernel_rfl; (intro hG; (exact cnvX)); exact rfl) | fail)
        have hE : (bif anyK (secPart b (r.parts.getD x part0)) l k then true else bif decide ((l.getD k sec0).name = (r.parts.getD x part0).name) then decide (sha (cutB b (l.getD k sec0)) = (r.parts.getD x part0).hash) else false) = anyK (secPart b (r.parts.getD x part0)) l (k + 1) := by
          rw [anyK]
          unfold secPart
          cases decide ((l.getD k sec0).name = (r.parts.getD x part0).name) <;> rfl
        refine Sat.back (k + 1) [] rfl ?_ (by omega) (by omega)
        ((repeat' (first | exact AllP.nil | with_reducible refine AllP.cons ?_ ?_)) <;> first | exact rfl | exact trivial | exact Int.natCast_add_one _ | (intro j _; simp [pureL, pureS, pureE]; done) | exact ⟨rfl, rfl, rfl, rfl⟩ | exact hE | exact congrArg SV.bool hE)
      · obtain rfl : k = l.length := by omega
        have hany : anyK (secPart b (r.parts.getD x part0)) l l.length = l.any (secPart b (r.parts.getD x part0)) := by rw [anyK_eq _ _ _ (Nat.le_refl _), List.take_length]
        rw [hany]
        cases hA : l.any (secPart b (r.parts.getD x part0)) with
        | true =>
          repeat' (first
            | ((with_reducible apply Sat.run (X := X64)); exact rfl; (first | exact True.intro | (exact phi) | skip))
            | ((with_reducible apply Sat.cond_f); exact rfl)
            | ((with_reducible apply Sat.cond_pf); exact rfl; (try dsimp only [V.EV.sub, V.EV.len]); first | assumption | omega) | fail)
          refine Sat.back (x + 1) [] rfl ?_ ⟨by omega, fun i hi => ?_⟩ (by omega)
          · ((repeat' (first | exact AllP.nil | with_reducible refine AllP.cons ?_ ?_)) <;> first | exact rfl | exact trivial | exact Int.natCast_add_one _ | (intro j _; simp [pureL, pureS, pureE]; done) | exact ⟨rfl, rfl, rfl, rfl⟩)
          · rcases Nat.lt_succ_iff_lt_or_eq.1 hi with h1 | rfl
            · exact x2 i h1
            · exact hA
        | false =>
          rw [hno x hx hA]
          repeat' (first
            | ((with_reducible apply Sat.run (X := X64)); exact rfl; (first | exact True.intro | (exact phi) | skip))
            | ((with_reducible apply Sat.cond_t); exact rfl)
            | ((with_reducible apply Sat.cond_pf); exact rfl; (try dsimp only [V.EV.sub, V.EV.len]); first | assumption | omega) | fail)
          (refine Sat.fin (Sat.end1 rfl rfl rfl True.intro (.refl _ purX) (by first | exact .inl rfl | exact .inr rfl) (fun _ h => h)) ?_; rfl)
    · obtain rfl : x = r.parts.length := by omega
      rw [hfin x2]
      repeat' (first
        | ((with_reducible apply Sat.run (X := X64)); exact rfl; (first | exact True.intro | (exact phi) | skip))
        | ((with_reducible apply Sat.cond_pf); exact rfl; (try dsimp only [V.EV.sub, V.EV.len]); first | assumption | omega) | fail)
      (refine Sat.fin (Sat.end1 rfl rfl rfl True.intro (.refl _ purX) (by first | exact .inl rfl | exact .inr rfl) (fun _ h => h)) ?_; rfl)
end Go.Proofs.YtokaegeediokoaaGreatDoor
end
section
namespace Go.Proofs.YtokaegeediokoaaGreatDoor
open Go.RowKit V Img
set_option maxRecDepth 100000
set_option linter.unusedSimpArgs false
theorem frS_ge (at' : Int) (r : RawS) (_ : 0 ≤ at') : at' ≤ frS at' r ∧ frS at' r < toS at' r := by
  unfold toS frS
  cases r.code
  · simp only [cond_false]; omega
  · simp only [cond_true]; omega
theorem madeS_ord (n : Int) : ∀ (l : List RawS) (i : Nat) (at' : Int), 0 ≤ at' → ∀ k, k < (madeS n i at' l).length → at' ≤ ((madeS n i at' l).getD k sec0).fr ∧ ((madeS n i at' l).getD k sec0).fr < ((madeS n i at' l).getD k sec0).to ∧ ((madeS n i at' l).getD k sec0).to ≤ n ∧ ∀ j, k < j → j < (madeS n i at' l).length → ((madeS n i at' l).getD k sec0).to ≤ ((madeS n i at' l).getD j sec0).fr
  | [], i, at', h, k, hk => by simp [madeS] at hk
  | r :: l, i, at', h, k, hk => by
    have h1 := frS_ge at' r h
    rw [madeS] at hk ⊢
    cases hd : decide (n < toS at' r) with
    | true => rw [hd] at hk; simp at hk
    | false =>
      rw [hd] at hk
      have hd2 := of_decide_eq_false hd
      simp only [cond_false] at hk ⊢
      cases k with
      | zero =>
        refine ⟨h1.1, h1.2, by show toS at' r ≤ n; omega, fun j hj hl => ?_⟩
        cases j with
        | zero => omega
        | succ j => exact (madeS_ord n l (i + 1) (toS at' r) (by omega) j (by simpa using hl)).1
      | succ k =>
        obtain ⟨q1, q2, q3, q4⟩ := madeS_ord n l (i + 1) (toS at' r) (by omega) k (by simpa using hk)
        refine ⟨by show at' ≤ ((madeS n (i + 1) (toS at' r) l).getD k sec0).fr; omega, q2, q3, fun j hj hl => ?_⟩
        cases j with
        | zero => omega
        | succ j => exact q4 j (by omega) (by simpa using hl)
theorem madeS_len (n : Int) : ∀ (l : List RawS) (i : Nat) (at' : Int), (madeS n i at' l).length ≤ l.length
  | [], _, _ => Nat.le_refl _
  | r :: l, i, at' => by
    rw [madeS]
    cases decide (n < toS at' r) with
    | true => exact Nat.zero_le _
    | false => exact Nat.succ_le_succ (madeS_len n l (i + 1) (toS at' r))
theorem made_at (n : Int) : ∀ (l : List RawS) (i : Nat) (at' : Int) (k : Nat), k < (madeS n i at' l).length → ((madeS n i at' l).getD k sec0).name = nameS (i + k) ∧ (((madeS n i at' l).getD k sec0).code = true → 0 ≤ at' → ((madeS n i at' l).getD k sec0).fr % 4 = 0 ∧ ((madeS n i at' l).getD k sec0).to % 4 = 0)
  | [], i, at', k, hk => by simp [madeS] at hk
  | r :: l, i, at', k, hk => by
    rw [madeS] at hk ⊢
    cases hd : decide (n < toS at' r) with
    | true => rw [hd] at hk; simp at hk
    | false =>
      rw [hd] at hk
      simp only [cond_false] at hk ⊢
      cases k with
      | zero =>
        refine ⟨rfl, fun hc h0 => ?_⟩
        have hc : r.code = true := hc
        show frS at' r % 4 = 0 ∧ toS at' r % 4 = 0
        unfold toS frS
        rw [hc]
        simp only [cond_true]
        omega
      | succ k =>
        obtain ⟨q1, q2⟩ := made_at n l (i + 1) (toS at' r) k (by simpa using hk)
        refine ⟨by rw [show i + (k + 1) = i + 1 + k by omega]; exact q1, fun hc h0 => q2 hc ?_⟩
        have := frS_ge at' r h0
        omega
theorem nameS_ok : ∀ i, i < 8 → Img.nameB (nameS i) = true ∧ ∀ j, j < i → nameS j ≠ nameS i := by decide
structure Secs (l : List SecL) (n : Nat) : Prop where
  few : l.length ≤ 8
  fit : ∀ i, i < l.length → 0 ≤ (l.getD i sec0).fr ∧ (l.getD i sec0).fr ≤ (l.getD i sec0).to ∧ (l.getD i sec0).to ≤ n
  inj : ∀ i j, i < l.length → j < l.length → (l.getD i sec0).name = (l.getD j sec0).name → i = j
  valid : Img.validB l n = true
theorem made_secs (m : List RawS) (n : Nat) : Secs (madeS n 0 0 (m.take 8)) n := by
  have hl : (madeS n 0 0 (m.take 8)).length ≤ 8 := Nat.le_trans (madeS_len n _ 0 0) (by rw [List.length_take]; omega)
  have hname : ∀ k, k < (madeS n 0 0 (m.take 8)).length → ((madeS n 0 0 (m.take 8)).getD k sec0).name = nameS k := fun k hk => by
    have := (made_at n (m.take 8) 0 0 k hk).1
    rwa [Nat.zero_add] at this
  refine ⟨hl, fun i hi => ?_, fun i j hi hj e => ?_, ?_⟩
  · obtain ⟨h1, h2, h3, _⟩ := madeS_ord n (m.take 8) 0 0 (Int.le_refl 0) i hi
    omega
  · rw [hname i hi, hname j hj] at e
    rcases Nat.lt_trichotomy i j with h | h | h
    · exact absurd e ((nameS_ok j (by omega)).2 i h)
    · exact h
    · exact absurd e.symm ((nameS_ok i (by omega)).2 j h)
  · unfold Img.validB
    rw [decide_eq_true hl, Bool.true_and]
    refine decide_eq_true fun i hi => ?_
    obtain ⟨h1, h2, h3, h4⟩ := madeS_ord n (m.take 8) 0 0 (Int.le_refl 0) i hi
    have hc := (made_at n (m.take 8) 0 0 i hi).2
    obtain ⟨n1, n5⟩ := nameS_ok i (by omega)
    refine ⟨⟨by rw [hname i hi]; exact n1, ?_, h2, by omega, fun hq => ?_⟩, fun k hk => ?_⟩
    · cases i with
      | zero => exact h1
      | succ i => exact (madeS_ord n (m.take 8) 0 0 (Int.le_refl 0) i (by omega)).2.2.2 (i + 1) (by omega) hi
    · have := hc hq (Int.le_refl 0)
      constructor
      · rw [Int.tmod_eq_emod_of_nonneg (by omega)]; exact this.1
      · rw [Int.tmod_eq_emod_of_nonneg (by omega)]; exact this.2
    · rw [hname k (by omega), hname i hi]
      exact n5 k hk
theorem fits_of_valid (b : List UInt8) (l : List SecL) (h : Img.validB l b.length = true) : ∀ i, i < l.length → Fits b (l.getD i sec0) := by
  unfold Img.validB at h
  simp only [Bool.and_eq_true, decide_eq_true_eq] at h
  obtain ⟨_, h2⟩ := h
  have lo : ∀ i, i < l.length → 0 ≤ (l.getD i sec0).fr ∧ 0 ≤ (l.getD i sec0).to := by
    intro i
    induction i with
    | zero =>
      intro hi
      obtain ⟨⟨_, q1, q2, _⟩, _⟩ := h2 0 hi
      have q1 : 0 ≤ (l.getD 0 sec0).fr := q1
      omega
    | succ i ih =>
      intro hi
      obtain ⟨⟨_, q1, q2, _⟩, _⟩ := h2 (i + 1) hi
      have := ih (by omega)
      have q1 : (l.getD i sec0).to ≤ (l.getD (i + 1) sec0).fr := q1
      omega
  intro i hi
  obtain ⟨⟨_, _, q2, q3, _⟩, _⟩ := h2 i hi
  have := lo i hi
  exact ⟨this.1, by omega, q3⟩
def selP (b : List UInt8) (l : List SecL) (w : UInt8) : Nat → List PartL
  | 0 => []
  | x + 1 => selP b l w x ++ if bitU w x = true then [⟨(l.getD x sec0).name, sha (cutB b (l.getD x sec0))⟩] else []
theorem selP_len (b : List UInt8) (l : List SecL) (w : UInt8) : ∀ x, (selP b l w x).length ≤ x
  | 0 => Nat.le_refl _
  | x + 1 => by
    have := selP_len b l w x
    rw [selP, List.length_append]
    split <;> simp <;> omega
theorem selP_mem (b : List UInt8) (l : List SecL) (w : UInt8) (p : PartL) : ∀ x, p ∈ selP b l w x ↔ ∃ i, i < x ∧ bitU w i = true ∧ p = ⟨(l.getD i sec0).name, sha (cutB b (l.getD i sec0))⟩
  | 0 => by simp [selP]
  | x + 1 => by
    rw [selP, List.mem_append, selP_mem b l w p x]
    constructor
    · rintro (⟨i, h1, h2⟩ | h)
      · exact ⟨i, by omega, h2⟩
      · split at h
        · rename_i hb
          exact ⟨x, by omega, hb, List.mem_singleton.1 h⟩
        · cases h
    · rintro ⟨i, h1, h2, h3⟩
      rcases Nat.lt_succ_iff_lt_or_eq.1 h1 with h | rfl
      · exact .inl ⟨i, h, h2, h3⟩
      · rw [if_pos h2]
        exact .inr (List.mem_singleton.2 h3)
theorem at_mem (l : List SecL) (i : Nat) (hi : i < l.length) : l.getD i sec0 ∈ l := by
  rw [List.getD_eq_getElem?_getD, List.getElem?_eq_getElem hi]
  exact List.getElem_mem _
theorem parts_own (b : List UInt8) (l : List SecL) (w : UInt8) (h : Secs l b.length) : partsB (selP b l w l.length) b l = true := by
  unfold partsB
  rw [h.valid, Bool.true_and, List.all_eq_true]
  intro p hp
  obtain ⟨i, hi, _, rfl⟩ := (selP_mem b l w p l.length).1 hp
  rw [List.any_eq_true]
  exact ⟨_, at_mem l i hi, by unfold secPart; rw [decide_eq_true rfl, decide_eq_true rfl]; rfl⟩
def nmdK (l : List SecL) (w : UInt8) (i : Nat) (k : Nat) : Bool := bif bif bitU w k then decide ((l.getD k sec0).fr ≤ (i : Int)) else false then decide ((i : Int) < (l.getD k sec0).to) else false
def insK (l : List SecL) (w : UInt8) (i : Nat) : Nat → Bool
  | 0 => false
  | k + 1 => bif insK l w i k then true else nmdK l w i k
def clsK (l : List SecL) (w : UInt8) (i : Nat) (b o : List UInt8) : Nat → Bool
  | 0 => false
  | k + 1 => bif clsK l w i b o k then true else bif nmdK l w i k then decide (sha (cutB o (l.getD k sec0)) = sha (cutB b (l.getD k sec0))) else false
theorem insK_iff (l : List SecL) (w : UInt8) (i : Nat) : ∀ x, insK l w i x = true ↔ ∃ k, k < x ∧ nmdK l w i k = true
  | 0 => by simp [insK]
  | x + 1 => by
    rw [insK]
    cases hq : insK l w i x with
    | true =>
      obtain ⟨k, h1, h2⟩ := (insK_iff l w i x).1 hq
      simp only [cond_true, true_iff]
      exact ⟨k, by omega, h2⟩
    | false =>
      simp only [cond_false]
      constructor
      · intro h; exact ⟨x, by omega, h⟩
      · rintro ⟨k, h1, h2⟩
        rcases Nat.lt_succ_iff_lt_or_eq.1 h1 with h | rfl
        · rw [(insK_iff l w i x).2 ⟨k, h, h2⟩] at hq; cases hq
        · exact h2
theorem clsK_of (l : List SecL) (w : UInt8) (i : Nat) (b o : List UInt8) : ∀ x, clsK l w i b o x = false → ∀ k, k < x → nmdK l w i k = true → sha (cutB o (l.getD k sec0)) ≠ sha (cutB b (l.getD k sec0))
  | 0, _, k, hk, _ => absurd hk (Nat.not_lt_zero _)
  | x + 1, h, k, hk, hn => by
    rw [clsK] at h
    cases hq : clsK l w i b o x with
    | true => rw [hq] at h; cases h
    | false =>
      rw [hq] at h
      simp only [cond_false] at h
      rcases Nat.lt_succ_iff_lt_or_eq.1 hk with h1 | rfl
      · exact clsK_of l w i b o x hq k h1 hn
      · rw [hn] at h
        exact of_decide_eq_false h
theorem cut_set (b : List UInt8) (i : Nat) (v : UInt8) (y : SecL) (h : (i : Int) < y.fr ∨ y.to ≤ (i : Int)) : cutB (b.set i v) y = cutB b y := by
  unfold cutB
  refine List.ext_getElem? fun j => ?_
  rw [List.getElem?_take, List.getElem?_take]
  split
  · rename_i hj
    rw [List.getElem?_drop, List.getElem?_drop, List.getElem?_set_ne (by omega)]
  · rfl
theorem parts_law (b : List UInt8) (l : List SecL) (w : UInt8) (i : Nat) (v : UInt8) (h : Secs l b.length) : (bif decide (partsB (selP b l w l.length) (b.set i v) l = !insK l w i l.length) then true else clsK l w i b (b.set i v) l.length) = true := by
  cases hc : clsK l w i b (b.set i v) l.length with
  | true => cases decide (partsB (selP b l w l.length) (b.set i v) l = !insK l w i l.length) <;> rfl
  | false =>
    have hne := clsK_of l w i b (b.set i v) l.length hc
    have hv : Img.validB l (b.set i v).length = true := by rw [List.length_set]; exact h.valid
    have e : partsB (selP b l w l.length) (b.set i v) l = !insK l w i l.length := by
      unfold partsB
      rw [hv, Bool.true_and]
      cases hi : insK l w i l.length with
      | false =>
        rw [Bool.not_false, List.all_eq_true]
        intro p hp
        obtain ⟨k, hk, hb, rfl⟩ := (selP_mem b l w p l.length).1 hp
        have hn : nmdK l w i k = false := by
          rw [Bool.eq_false_iff]
          intro hn
          rw [(insK_iff l w i l.length).2 ⟨k, hk, hn⟩] at hi
          cases hi
        have hout : (i : Int) < (l.getD k sec0).fr ∨ (l.getD k sec0).to ≤ (i : Int) := by
          unfold nmdK at hn
          rw [hb] at hn
          simp only [cond_true] at hn
          by_cases q : (l.getD k sec0).fr ≤ (i : Int)
          · rw [decide_eq_true q] at hn
            simp only [cond_true] at hn
            have := of_decide_eq_false hn
            omega
          · omega
        rw [List.any_eq_true]
        refine ⟨_, at_mem l k hk, ?_⟩
        unfold secPart
        rw [cut_set b i v _ hout, decide_eq_true rfl, decide_eq_true rfl]
        rfl
      | true =>
        obtain ⟨k, hk, hn⟩ := (insK_iff l w i l.length).1 hi
        rw [Bool.not_true, Bool.eq_false_iff]
        intro hall
        have hb : bitU w k = true := by
          unfold nmdK at hn
          cases hb : bitU w k with
          | true => rfl
          | false => rw [hb] at hn; cases hn
        have h1 := List.all_eq_true.1 hall _ ((selP_mem b l w _ l.length).2 ⟨k, hk, hb, rfl⟩)
        rw [List.any_eq_true] at h1
        obtain ⟨y, hy, h2⟩ := h1
        obtain ⟨j, hj, rfl⟩ := List.mem_iff_getElem.1 hy
        unfold secPart at h2
        simp only [Bool.and_eq_true, decide_eq_true_eq] at h2
        have ej : l[j] = l.getD j sec0 := by rw [List.getD_eq_getElem?_getD, List.getElem?_eq_getElem hj]; rfl
        rw [ej] at h2
        obtain rfl := h.inj j k hj hk h2.1
        exact hne j hk hn h2.2
    rw [decide_eq_true e]
    rfl
end Go.Proofs.YtokaegeediokoaaGreatDoor
end
section
namespace Go.Proofs.YtokaegeediokoaaGreatDoor
open Go.RowKit V Img
set_option maxRecDepth 100000
set_option maxHeartbeats 8000000
set_option linter.unusedSimpArgs false
theorem part_pure (p : PartL) : pureL (partC p) := ⟨trivial, trivial, trivial⟩
attribute [local irreducible] V.Sat V.DSat
theorem parts_core (b : List UInt8) (m : List RawS) (w0 w1 w2 w3 : UInt8) : Fun Tryz.prog Γh 9 [.ro (.u8 b), .ro (rawE m), w4 w0 w1 w2 w3] (.bool true) := by
  have c0 := sanity_law
  obtain ⟨q, hq⟩ : ∃ q, q = List.take ((some (minV ((EV.u8 b).len : Int) 24).toNat).getD (EV.u8 b).len - (none : Option Nat).getD 0) (List.drop ((none : Option Nat).getD 0) b) := ⟨_, rfl⟩
  have hqn : 0 ≤ minV ((EV.u8 b).len : Int) 24 := by unfold minV; split <;> omega
  have hqm : 0 ≤ (minV ((EV.u8 b).len : Int) 24).toNat ∧ (minV ((EV.u8 b).len : Int) 24).toNat ≤ (EV.u8 b).len := by unfold minV; split <;> omega
  have hql : q.length ≤ 24 := by
    rw [hq, List.length_take]
    have : minV ((EV.u8 b).len : Int) 24 ≤ 24 := by unfold minV; split <;> omega
    show min ((minV ((EV.u8 b).len : Int) 24).toNat - 0) _ ≤ 24
    omega
  have c1 := (made_spec m q.length (by omega)).weak (Γ := Γh)
  have hS := made_secs m q.length
  generalize madeS q.length 0 0 (m.take 8) = S at c1 hS
  have c2 := plain_spec (Γ := Γh)
  refine Fun.mk 8 Tryz.func9 rfl Tryz.ntmps9 rfl rfl fun T wo => ?_
  subst hq
  repeat' (first
    | ((with_reducible apply Sat.run (X := X64)); exact rfl; (first | exact True.intro | (exact phi) | skip))
    | ((with_reducible apply Sat.call0 (c0)); exact rfl; exact rfl; kernel_rfl; exact rfl)
    | ((with_reducible apply Sat.call (c1)); exact rfl; exact rfl; kernel_rfl; (exact cnvX); exact rfl)
    | ((with_reducible apply Sat.call (c2)); exact rfl; exact rfl; kernel_rfl; (exact cnvX); exact rfl) | fail)
  all_goals first | exact AllP.cons hqn (AllP.cons hqm AllP.nil) | skip
  generalize List.take ((some (minV ((EV.u8 b).len : Int) 24).toNat).getD (EV.u8 b).len - (none : Option Nat).getD 0) (List.drop ((none : Option Nat).getD 0) b) = bb at *
  clear hqn hqm
  have hlS := hS.few
  apply Sat.loop (α := Nat) (fun x => x ≤ S.length) (fun x => S.length - x) 0 (fun x => [(11, .int .i64 (x : Int))]) (fun x => [(1, .cells 43 [.int .i64 0, .int .i64 0, .int .i64 0, .int .i64 0, .arr 32 (.u8 (List.replicate 32 0)), .int .i64 0, .arr 32 (.u8 (List.replicate 32 0)), .nils, .row 3 0 33 0 (selP bb S w0 x).length]), (3, .row 87 (partsE (selP bb S w0 x)))]) [] [(3, none)] 1
  · intro x; exact rfl
  · intro x; exact rfl
  · exact rfl
  · exact rfl
  · ((repeat' (first | exact AllP.nil | with_reducible refine AllP.cons ?_ ?_)) <;> first | exact rfl | exact trivial | exact Int.natCast_add_one _ | (intro j _; simp [pureL, pureS, pureE]; done) | exact ⟨rfl, rfl, rfl, rfl⟩)
  · omega
  intro x hx
  have hle := selP_len bb S w0 x
  by_cases hx2 : x < S.length
  · have hc : (x : Int) < (S.length : Int) := by omega
    have hbit := u8_bit w0 x (by omega)
    obtain ⟨f1, f2, f3⟩ := hS.fit (x : Int).toNat (by omega)
    have hlen : (cutB bb (S.getD (x : Int).toNat sec0)).length ≤ 1000000 := by unfold cutB; rw [List.length_take, List.length_drop]; omega
    have hs := rsumh (cutB bb (S.getD (x : Int).toNat sec0)) (by omega)
    unfold cutB at hs
    have es : selP bb S w0 (x + 1) = selP bb S w0 x ++ if bitU w0 x = true then [⟨(S.getD x sec0).name, sha (cutB bb (S.getD x sec0))⟩] else [] := rfl
    cases hB : bitU w0 x with
    | true =>
      rw [hB, if_pos rfl] at es
      rw [hB] at hbit
      generalize selP bb S w0 x = L at hle es ⊢
      repeat' (first
        | ((with_reducible apply Sat.cond_pt); exact rfl; exact of_decide_eq_true hbit)
        | ((with_reducible apply Sat.run (X := X64)); exact rfl; (first | exact True.intro | (exact phi) | skip))
        | ((with_reducible apply Sat.drawn); kernel_rfl)
        | ((with_reducible apply DSat.run (X := X64)); exact rfl; (first | exact True.intro | (exact phi) | skip))
        | ((with_reducible apply DSat.fin); kernel_rfl)
        | ((with_reducible apply Sat.cond_pt); exact rfl; (try dsimp only [V.EV.sub, V.EV.len]); first | assumption | omega)
        | ((with_reducible apply DSat.callR (hs)); exact rfl; exact rfl; exact rfl; kernel_rfl; (exact cnvX); exact rfl) | fail)
      refine Sat.back (x + 1) [(3, some 5)] rfl ?_ (by omega) (by omega)
      rw [es]
      ((repeat' (first | exact AllP.nil | with_reducible refine AllP.cons ?_ ?_)) <;> first | exact rfl | exact trivial | exact Int.natCast_add_one _ | (intro j _; simp [pureL, pureS, pureE]; done) | exact ⟨rfl, rfl, rfl, rfl⟩ | exact snocE partC part0 L ⟨(S.getD x sec0).name, sha (cutB bb (S.getD x sec0))⟩ | exact snocP partC part_pure part0 L ⟨(S.getD x sec0).name, sha (cutB bb (S.getD x sec0))⟩ | (simp; done) | exact ⟨rfl, rfl, rfl, (by simp [EV.len, EV.sub])⟩)
    | false =>
      rw [hB] at es
      simp only [Bool.false_eq_true, if_false, List.append_nil] at es
      rw [hB] at hbit
      generalize selP bb S w0 x = L at hle es ⊢
      repeat' (first
        | ((with_reducible apply Sat.cond_pf); exact rfl; exact of_decide_eq_false hbit)
        | ((with_reducible apply Sat.run (X := X64)); exact rfl; (first | exact True.intro | (exact phi) | skip))
        | ((with_reducible apply Sat.cond_pt); exact rfl; (try dsimp only [V.EV.sub, V.EV.len]); first | assumption | omega) | fail)
      refine Sat.back (x + 1) [(3, some 3)] rfl ?_ (by omega) (by omega)
      rw [es]
      ((repeat' (first | exact AllP.nil | with_reducible refine AllP.cons ?_ ?_)) <;> first | exact rfl | exact trivial | exact Int.natCast_add_one _ | (intro j _; simp [pureL, pureS, pureE]; done) | exact ⟨rfl, rfl, rfl, rfl⟩)
  · obtain rfl : x = S.length := by omega
    have hown := parts_own bb S w0 hS
    have hlaw := fun i v => parts_law bb S w0 i v hS
    generalize selP bb S w0 S.length = L at hle hown hlaw ⊢
    have c5 := parts_spec ⟨plainL, 0, [], 0⟩ ⟨0, 0, 0, 0, List.replicate 32 0, 0, List.replicate 32 0, [], L⟩ bb (by omega) S (fits_of_valid bb S)
    rw [show partsB (⟨0, 0, 0, 0, List.replicate 32 0, 0, List.replicate 32 0, [], L⟩ : Rel).parts bb S = true from hown] at c5
    have hhl : (List.take ((some (((EV.u8 bb).len : Int) / 2).toNat).getD (EV.u8 bb).len - (none : Option Nat).getD 0) (List.drop ((none : Option Nat).getD 0) bb)).length ≤ 1000000 := by rw [List.length_take, List.length_drop]; omega
    have c6 := parts_spec ⟨plainL, 0, [], 0⟩ ⟨0, 0, 0, 0, List.replicate 32 0, 0, List.replicate 32 0, [], L⟩ (List.take ((some (((EV.u8 bb).len : Int) / 2).toNat).getD (EV.u8 bb).len - (none : Option Nat).getD 0) (List.drop ((none : Option Nat).getD 0) bb)) hhl S (fits_of_valid _ S)
    have c7 := rparts_spec ⟨0, 0, 0, 0, List.replicate 32 0, 0, List.replicate 32 0, [], L⟩ (List.take ((some (((EV.u8 bb).len : Int) / 2).toNat).getD (EV.u8 bb).len - (none : Option Nat).getD 0) (List.drop ((none : Option Nat).getD 0) bb)) hhl S (fits_of_valid _ S)
    generalize partsB (⟨0, 0, 0, 0, List.replicate 32 0, 0, List.replicate 32 0, [], L⟩ : Rel).parts (List.take ((some (((EV.u8 bb).len : Int) / 2).toNat).getD (EV.u8 bb).len - (none : Option Nat).getD 0) (List.drop ((none : Option Nat).getD 0) bb)) S = H at c6 c7
    have hh1 : 0 ≤ ((EV.u8 bb).len : Int) / 2 := by omega
    have hh2 : (((EV.u8 bb).len : Int) / 2).toNat ≤ (EV.u8 bb).len := by omega
    ((with_reducible apply Sat.run (X := X64)); exact rfl; (first | exact True.intro | (exact phi)))
    ((with_reducible apply Sat.cond_pf); exact rfl; (dsimp only [V.EV.sub, V.EV.len]; omega))
    refine Sat.freezeC true 3 rfl ?_ ?_
    · (repeat' (first | exact AllP.nil | with_reducible refine AllP.cons ?_ ?_)) <;> first | exact rfl | exact trivial | exact .inl ⟨rfl, rfl, rfl⟩ | (intro _ _; exact part_pure _) | (intro _ _; simp [pureL, pureS, pureE]; done) | exact ⟨rfl, rfl, rfl, rfl⟩
    have q3 : (bif !true then true else H != H) = false := by cases H <;> rfl
    by_cases hz : bb.length = 0
    · repeat' (first
          | ((with_reducible apply Sat.cond); exact rfl; (intro h; exact absurd (h.symm.trans q3) (by decide)); (intro h; clear h))
          | ((with_reducible apply Sat.run (X := X64)); exact rfl; (first | exact True.intro | (exact phi) | skip))
          | ((with_reducible apply Sat.drawn); kernel_rfl)
          | ((with_reducible apply DSat.run (X := X64)); exact rfl; (first | exact True.intro | (exact phi) | skip))
          | ((with_reducible apply DSat.fin); kernel_rfl)
          | ((with_reducible apply Sat.cond_t); exact rfl)
          | ((with_reducible apply Sat.cond_f); exact rfl)
          | ((with_reducible apply Sat.cond_pt); exact rfl; (try dsimp only [V.EV.sub, V.EV.len]); first | assumption | omega)
          | ((with_reducible apply Sat.cond_pf); exact rfl; (try dsimp only [V.EV.sub, V.EV.len]); first | assumption | omega)
          | ((with_reducible apply Sat.cond_p); exact rfl; all_goals intro h)
          | ((with_reducible apply Sat.cond); exact rfl; all_goals intro h)
          | ((with_reducible apply Sat.callR (c5)); exact rfl; exact rfl; exact rfl; kernel_rfl; (exact cnvX); exact rfl)
          | ((with_reducible apply DSat.callR (c5)); exact rfl; exact rfl; exact rfl; kernel_rfl; (exact cnvX); exact rfl)
          | ((with_reducible apply Sat.callG1 (c6)); exact rfl; exact rfl; exact rfl; exact rfl; kernel_rfl; (intro hG; (exact cnvX)); exact rfl)
          | ((with_reducible apply DSat.callG1 (c6)); exact rfl; exact rfl; exact rfl; exact rfl; kernel_rfl; (intro hG; (exact cnvX)); exact rfl)
          | ((with_reducible apply Sat.callG1 (c7)); exact rfl; exact rfl; exact rfl; exact rfl; kernel_rfl; (intro hG; (exact cnvX)); exact rfl)
          | ((with_reducible apply DSat.callG1 (c7)); exact rfl; exact rfl; exact rfl; exact rfl; kernel_rfl; (intro hG; (exact cnvX)); exact rfl) | fail)
      (refine Sat.fin (Sat.end1 rfl rfl rfl True.intro (.refl _ purX) (by first | exact .inl rfl | exact .inr rfl) (fun _ h => h)) ?_; rfl)
    have hi0 : 0 ≤ (w1.toNat : Int) % (bb.length : Int) := Int.emod_nonneg _ (by omega)
    have hi1 : (w1.toNat : Int) % (bb.length : Int) < (bb.length : Int) := Int.emod_lt_of_pos _ (by omega)
    repeat' (first
      | ((with_reducible apply Sat.cond); exact rfl; (intro h; exact absurd (h.symm.trans q3) (by decide)); (intro h; clear h))
      | ((with_reducible apply Sat.run (X := X64)); exact rfl; (first | exact True.intro | (exact phi) | skip))
      | ((with_reducible apply Sat.drawn); kernel_rfl)
      | ((with_reducible apply DSat.run (X := X64)); exact rfl; (first | exact True.intro | (exact phi) | skip))
      | ((with_reducible apply DSat.fin); kernel_rfl)
      | ((with_reducible apply Sat.cond_pf); exact rfl; (try dsimp only [V.EV.sub, V.EV.len]); first | assumption | omega)
      | ((with_reducible apply DSat.callR (c5)); exact rfl; exact rfl; exact rfl; kernel_rfl; (exact cnvX); exact rfl)
      | ((with_reducible apply DSat.callG1 (c6)); exact rfl; exact rfl; exact rfl; exact rfl; kernel_rfl; (intro hG; (exact cnvX)); exact rfl)
      | ((with_reducible apply DSat.callG1 (c7)); exact rfl; exact rfl; exact rfl; exact rfl; kernel_rfl; (intro hG; (exact cnvX)); exact rfl) | fail)
    obtain ⟨ii, hii⟩ := Int.eq_ofNat_of_zero_le hi0
    rw [show (w1.toNat : Int) % ((EV.u8 bb).len : Int) = (ii : Int) from hii]
    simp only [Int.toNat_natCast, Nat.zero_add, List.nil_append]
    generalize UInt8.ofNat (IntKind.u8.wrap _).toNat = v
    have hlaw2 := hlaw ii v
    have ho : (bb.set ii v).length = bb.length := List.length_set
    clear hlaw
    generalize bb.set ii v = oo at *
    refine Sat.kill [67, 68, 69, 70, 71, 72, 73, 74, 75, 76, 77, 78, 79, 80, 81, 82, 83, 84, 85, 86, 87, 88, 89, 90, 91, 92, 93, 104, 109, 115] rfl ?_
    refine Sat.freezeC true 5 rfl ?_ ?_
    · (repeat' (first | exact AllP.nil | with_reducible refine AllP.cons ?_ ?_)) <;> first | exact rfl | exact trivial | exact .inl ⟨rfl, rfl, rfl⟩ | exact .inl ⟨rfl, ho.symm, rfl⟩ | (intro _ _; simp [pureL, pureS, pureE]; done) | exact ⟨rfl, rfl, rfl, rfl⟩ | skip
    apply Sat.loop (α := Nat) (fun k => k ≤ S.length) (fun k => S.length - k) 0 (fun k => [(16, .int .i64 (k : Int)), (14, .bool (insK S w0 ii k)), (15, .bool (clsK S w0 ii bb oo k))]) (fun _ => []) [] [] 0
    · intro x; exact rfl
    · intro x; exact rfl
    · exact rfl
    · exact rfl
    · ((repeat' (first | exact AllP.nil | with_reducible refine AllP.cons ?_ ?_)) <;> first | exact rfl | exact trivial | exact Int.natCast_add_one _ | (intro j _; simp [pureL, pureS, pureE]; done) | exact ⟨rfl, rfl, rfl, rfl⟩)
    · exact Nat.zero_le _
    intro k hk
    by_cases hk2 : k < S.length
    · have hc : (k : Int) < (S.length : Int) := by omega
      have hbit := u8_bit w0 k (by omega)
      obtain ⟨f1, f2, f3⟩ := hS.fit (k : Int).toNat (by omega)
      have hs1 := rsumh (cutB oo (S.getD (k : Int).toNat sec0)) (by unfold cutB; rw [List.length_take, List.length_drop]; omega)
      have hs2 := rsumh (cutB bb (S.getD (k : Int).toNat sec0)) (by unfold cutB; rw [List.length_take, List.length_drop]; omega)
      unfold cutB at hs1 hs2
      have hI : (bif insK S w0 ii k then true else bif bif bitU w0 k then decide ((S.getD k sec0).fr ≤ (ii : Int)) else false then decide ((ii : Int) < (S.getD k sec0).to) else false) = insK S w0 ii (k + 1) := rfl
      have hC : (bif clsK S w0 ii bb oo k then true else bif bif bif bitU w0 k then decide ((S.getD k sec0).fr ≤ (ii : Int)) else false then decide ((ii : Int) < (S.getD k sec0).to) else false then decide (sha (cutB oo (S.getD k sec0)) = sha (cutB bb (S.getD k sec0))) else false) = clsK S w0 ii bb oo (k + 1) := rfl
      repeat' (first
        | (rw [hbit])
        | ((with_reducible apply Sat.run (X := X64)); exact rfl; (first | exact True.intro | (exact phi) | skip))
        | ((with_reducible apply Sat.drawn); kernel_rfl)
        | ((with_reducible apply DSat.run (X := X64)); exact rfl; (first | exact True.intro | (exact phi) | skip))
        | ((with_reducible apply DSat.fin); kernel_rfl)
        | ((with_reducible apply Sat.cond_pt); exact rfl; (try dsimp only [V.EV.sub, V.EV.len]); first | assumption | omega)
        | ((with_reducible apply DSat.callG1 (hs1)); exact rfl; exact rfl; exact rfl; exact rfl; kernel_rfl; (intro hG; (exact cnvX)); exact rfl)
        | ((with_reducible apply DSat.callG1 (hs2)); exact rfl; exact rfl; exact rfl; exact rfl; kernel_rfl; (intro hG; (exact cnvX)); exact rfl) | fail)
      refine Sat.back (k + 1) [] rfl ?_ (show k + 1 ≤ S.length by omega) (show S.length - (k + 1) < S.length - k by omega)
      ((repeat' (first | exact AllP.nil | with_reducible refine AllP.cons ?_ ?_)) <;> first | exact rfl | exact trivial | exact Int.natCast_add_one _ | (intro j _; simp [pureL, pureS, pureE]; done) | exact ⟨rfl, rfl, rfl, rfl⟩ | exact hI | exact hC | exact congrArg SV.bool hI | exact congrArg SV.bool hC)
    · obtain rfl : k = S.length := by omega
      have c9 := parts_spec ⟨plainL, 0, [], 0⟩ ⟨0, 0, 0, 0, List.replicate 32 0, 0, List.replicate 32 0, [], L⟩ oo (by omega) S (fits_of_valid oo S)
      generalize clsK S w0 ii bb oo S.length = C at hlaw2 ⊢
      generalize insK S w0 ii S.length = I at hlaw2 ⊢
      rw [show partsB (⟨0, 0, 0, 0, List.replicate 32 0, 0, List.replicate 32 0, [], L⟩ : Rel).parts oo S = partsB L oo S from rfl] at c9
      generalize partsB L oo S = P at hlaw2 c9
      repeat' (first
        | ((with_reducible apply Sat.run (X := X64)); exact rfl; (first | exact True.intro | (exact phi) | skip))
        | ((with_reducible apply Sat.cond_pf); exact rfl; (try dsimp only [V.EV.sub, V.EV.len]); first | assumption | omega)
        | ((with_reducible apply Sat.callR (c9)); exact rfl; exact rfl; exact rfl; kernel_rfl; (exact cnvX); exact rfl) | fail)
      all_goals (refine Sat.fin (Sat.end1 rfl rfl rfl True.intro (.refl _ purX) (by first | exact .inl rfl | exact .inr rfl) (fun _ h => h)) ?_; (revert hlaw2; cases P <;> cases I <;> cases C <;> intro h <;> first | rfl | exact absurd h (by decide)))
end Go.Proofs.YtokaegeediokoaaGreatDoor
end
section
namespace Go.Proofs.YtokaegeediokoaaGreatDoor.Img
open Go.RowKit V
section
variable {H : Type}
theorem map_nthD {α : Type} (f : DataW H → α) : ∀ (l : List (DataW H)) (i : Nat), (l.map f).getD i (f .nil) = f (nthD l i)
  | [], _ => rfl
  | _ :: _, 0 => rfl
  | _ :: l, i + 1 => map_nthD f l i
@[reducible] def rawsSV (l : List (DataW H)) : EV := .g l.length 4 fun i => [.int .u8 (iOf (nthD (ptsD (nthD l i)) 0)), .int .u8 (iOf (nthD (ptsD (nthD l i)) 1)), .int .u8 (iOf (nthD (ptsD (nthD l i)) 2)), .bool (bOf (nthD (ptsD (nthD l i)) 3))]
def rawD (d : DataW H) : RawS := ⟨u8Of (nthD (ptsD d) 0), u8Of (nthD (ptsD d) 1), u8Of (nthD (ptsD d) 2), bOf (nthD (ptsD d) 3)⟩
theorem rawsSV_eq (l : List (DataW H)) (h : factsE (rawsSV l)) : rawsSV l = rawE (l.map rawD) := by
  show EV.g _ _ _ = EV.g _ _ _
  rw [List.length_map]
  congr 1
  funext i
  have e : (l.map rawD).getD i raw0 = rawD (nthD l i) := map_nthD rawD l i
  rw [e]
  by_cases hi : i < l.length
  · obtain ⟨h1, h2, h3, _⟩ := h i hi
    show [SV.int .u8 _, SV.int .u8 _, SV.int .u8 _, _] = [SV.int .u8 ((u8Of (nthD (ptsD (nthD l i)) 0)).toNat : Int), SV.int .u8 ((u8Of (nthD (ptsD (nthD l i)) 1)).toNat : Int), SV.int .u8 ((u8Of (nthD (ptsD (nthD l i)) 2)).toNat : Int), _]
    rw [← u8Of_i _ h1, ← u8Of_i _ h2, ← u8Of_i _ h3]
    rfl
  · rw [nthD_out l i (by omega)]
    rfl
end
end Go.Proofs.YtokaegeediokoaaGreatDoor.Img
end
section
namespace Go.Proofs.YtokaegeediokoaaGreatDoor
open Go.RowKit Go.ChangeShapes Go.WideShapes V
set_option maxRecDepth 100000
set_option maxHeartbeats 8000000
theorem trustParts_step (os : Os) (started : os.Started) (H : Type) (enc : TypeId × Value → H) (F : Stop.Interp) :
    ReturnsInHanded {} Tryz.checked os 9 .any ((OpenSpec.ofChange Rows.trustPartsSpec).preRow enc Tryz.prog Tryz.f9 Rows.trustPartsRow.domain false Rows.trustPartsRow.laid) (((OpenSpec.ofChange Rows.trustPartsSpec).at F).post enc Tryz.prog Tryz.f9 false true false false) := by
  refine law_step (C := Tryz.checked) (fn := Tryz.f9) (s := OpenSpec.ofChange Rows.trustPartsSpec) (F := F) (tb := 4) Γh own started (by kernel_rfl) Tryz.func9 laidOut (by kernel_rfl) (by kernel_rfl) (by kernel_rfl) Tryz.underlying4 rfl ?_
    (row_witness (World.laidAll Tryz.prog os tabs_laid) #[.slice none 0 0, .slice none 0 0, .agg #[.int .u8 0, .int .u8 0, .int .u8 0, .int .u8 0]] (World.laidAll_os _ _ _) (by kernel_rfl) (by kernel_rfl) (by kernel_rfl) (by kernel_rfl) (by kernel_rfl) (door_met os _)) tabs_glob ?_
  · intro ds hl
    obtain ⟨d1, d2, d3, rfl⟩ := list_len3 hl
    rfl
  · intro W vs ds hl ht hk
    obtain ⟨d1, d2, d3, rfl⟩ := list_len3 hl
    refine Fun.facts fun hf => ?_
    show Fun _ _ _ [.ro (.u8 ((eOf d1).map u8Of)), .ro (Img.rawsSV (eOf d2)), .agg [.int .u8 (iOf (nthD (ptsD d3) 0)), .int .u8 (iOf (nthD (ptsD d3) 1)), .int .u8 (iOf (nthD (ptsD d3) 2)), .int .u8 (iOf (nthD (ptsD d3) 3))]] _
    rw [Img.rawsSV_eq (eOf d2) hf.2.1.2]
    obtain ⟨_, _, ⟨h1, h2, h3, h4, _⟩, _⟩ := hf
    rw [u8Of_i _ h1, u8Of_i _ h2, u8Of_i _ h3, u8Of_i _ h4]
    exact parts_core _ _ _ _ _ _
theorem trustParts_said : Rows.TrustPartsSaid :=
  OpenClaim.holds_of_cond 9 Tryz.f9 rfl rfl rfl rfl rfl rfl rfl ⟨rfl, rfl, rfl, rfl, rfl⟩ rfl rfl rfl rfl rfl (by kernel_rfl) Tryz.func9 (by kernel_rfl)
    (of_decide_eq_true (by kernel_rfl)) (by unfold Func.isWrapper; first | (rw [if_pos (by decide +kernel)]; kernel_rfl) | (rw [if_neg (by decide +kernel)]; exact ⟨rfl, rfl⟩))
    (fun os started H enc _ F => by rw [OpenClaim.pre_eq_preRow]; exact trustParts_step os started H enc F)
theorem trustParts_plain (f : FuncId) (fn : Func) (hf : Tryz.pinned.checked.prog.funcNamed "inlay/inlaylaw27.TrustParts" = some f) (hfn : Tryz.pinned.checked.prog.funcs[f]? = some fn) :
    false = Tryz.pinned.checked.prog.looks [] ∧ ∀ (j : Nat) t, fn.params[j]? = some t → Tryz.pinned.checked.prog.wantsStandIn t = false := by
  obtain rfl : f = 9 := Option.some.inj ((show Tryz.prog.funcNamed "inlay/inlaylaw27.TrustParts" = some 9 by kernel_rfl).symm.trans hf) |>.symm
  obtain rfl : fn = Tryz.f9 := (Option.some.inj (Tryz.func9.symm.trans hfn)).symm
  refine ⟨by kernel_rfl, fun j t ht => ?_⟩
  have hall : Tryz.f9.params.all (fun t => !(Tryz.prog.wantsStandIn t)) = true := by kernel_rfl
  have := (Array.all_eq_true_iff_forall_mem.1 hall) t (Array.mem_of_getElem? ht)
  have h2 : Tryz.prog.wantsStandIn t = false := by simpa using this
  exact h2
theorem trustParts_card : Rows.TrustPartsCardSaid :=
  Claim7.holds_tied_plain_at .later [] _ _ _ _ trustParts_said (fun _ h => by cases h) (by kernel_rfl) (fun _ h => by cases h) trustParts_row_tie rfl ⟨rfl, rfl⟩ (by kernel_rfl) rfl trustParts_plain (by kernel_rfl)
end Go.Proofs.YtokaegeediokoaaGreatDoor
end
