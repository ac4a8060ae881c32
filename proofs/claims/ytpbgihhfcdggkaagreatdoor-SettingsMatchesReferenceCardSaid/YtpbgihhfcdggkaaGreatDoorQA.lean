/-
  Joined texts: Base: What every law of this seat shares: a law's contract (it returns true, and below the old heap nothing has turned) gives its row's step; small lemmas on worlds.
  Cb: Slices of values (two cells each): cut.
  Cc: Slices of values (two cells each): put in.
  Cd: Slices of values (two cells each): put in where there is no room; copied.
  Va: A walk by abstract values: what a slot, a block, a slice reads as, in terms of lists and numbers; how that lasts when the world goes on.
  Vb: A walk by abstract values: frames, memory, the state; what an operation reckons.
  Vc: A walk by abstract values: what an operation reckons is what the model does.
  Vd: A walk by abstract values: indexes, arithmetic, texts, structs, slices, and what is built.
  Ve: A walk by abstract values: indexes, conversions, slices, what is built; every operation that leaves memory alone.
  Vf: A walk by abstract values: conversions, slices, what is built; every operation that leaves memory alone.
  Vg: A walk by abstract values: zeros, what is built, choices; every operation that leaves memory alone.
  Vh: A walk by abstract values: every operation that leaves memory alone does what it reckons.
  Vi: A walk by abstract values: the operations that make or write memory.
  Vj: A walk by abstract values: how the state goes on.
  Vk: A walk by abstract values: what the operations that make or write memory do.
  Vl: A walk by abstract values: slices that are made, written out, appended to.
-/
import Derived.Test.YtpbgihhfcdggkaaGreatDoorRows
import Derived.Handy
import Derived.WalkSpells
import Derived.WalkLawsBesides
import Derived.Deep.QuietTactic
import Derived.BigQuiet
import Derived.Deep.DeepHandedRow
import Derived.JoinedCond
import Derived.LaidMore
import Derived.Lib.Hide
import Derived.Deep.Draws
import Derived.Laws.Rows
import Derived.Shelf.Spec.SlicesInsertGrow
import Derived.Shelf.RegionOpenPlain
import Derived.Deep.RegionLaw
import Derived.Deep.LoopGhost
import Derived.WalkKit
import Derived.Orders
import Derived.Deep.Quiet
import Derived.Laws.Cells
import Derived.Laws.CopyRow
import Derived.Laws.CopyOwn
import Derived.Laws.AppendOwn
import Derived.Laws.StructEq
import Derived.ChangeKeysEq
import Derived.Laws.Build
import Derived.Laws.BytesString
import Derived.Laws.Tables
import Derived.Deep.AppendSrc
import Derived.Laws.MakeOwn
import Derived.Great.BuildSlice
section
namespace Go.Proofs.YtpbgihhfcdggkaaGreatDoor
open Go.ChangeShapes Go.WideShapes Go.ChangeAt Go.RowKit
def Blk (w : World) (g : Nat) (t : TypeId) (cs : Array Value) : Prop := w.heap[g]? = some (.cells cs t (0, 0))
section
variable {w w' : World} {g : Nat} {t : TypeId} {cs : Array Value}
theorem Blk.lt (h : Blk w g t cs) : g < w.heap.size := by
  rcases Nat.lt_or_ge g w.heap.size with hlt | hge
  · exact hlt
  · unfold Blk at h; rw [Array.getElem?_eq_none hge] at h; cases h
theorem Blk.cell (h : Blk w g t cs) (i : Nat) : w.cell? ⟨g, i, none⟩ = cs[i]? := cell_of_row w g i cs t (0, 0) h
theorem Blk.frozen (h : Blk w g t cs) (i : Nat) : w.frozen? ⟨g, i, none⟩ = false := by
  unfold Blk at h
  simp [World.frozen?, h]
theorem Blk.new (w : World) (t : TypeId) (cs : Array Value) : Blk (w.alloc (.cells cs t)) w.heap.size t cs := heap_alloc_new w _
theorem Blk.drew (h : Blk w g t cs) : Blk w.drew g t cs := h
theorem Blk.drewN (h : Blk w g t cs) (n : Nat) : Blk (w.drewN n) g t cs := h
theorem Blk.alloc (h : Blk w g t cs) (o : Obj) : Blk (w.alloc o) g t cs := (Below.heap_alloc w o g h.lt).trans h
theorem Blk.below {B : Nat} (h : Blk w g t cs) (hb : Below B w w') (hg : g < B) : Blk w' g t cs := (hb.block g hg).trans h
theorem Blk.grown {row : Option Nat} (h : Blk w g t cs) (hb : w.grownBy w' row) (hg : some g ≠ row) : Blk w' g t cs := (hb.block g h.lt hg).trans h
end
section
variable {H : Type} {enc : TypeId × Value → H} {P : Program}
theorem trodAll_below (hl : laidOutB P = true) {W W' : World} (hsame : ∀ p : MemPlace, p.block < W.heap.size → W.sameAt W' p) {sp' : Nat → Bool} :
    ∀ {ts : List TypeId} {vs : List Value} {ds : List (DataW H)} {ps : List MemPlace}, (∀ t ∈ ts, P.readableRec t = true ∧ t < P.types.size) →
      DataW.TrodAll enc P W 0 (fun _ => true) true ts vs ds ps → (∀ p ∈ ps, p.block < W.heap.size) → (∀ p ∈ ps, sp' p.block = true) → DataW.TrodAll enc P W' 0 sp' true ts vs ds ps
  | [], _, _, _, _, h, _, _ => by
    obtain ⟨rfl, rfl, rfl⟩ := trodAll_nil h
    exact trodAll_mk0
  | t :: ts, _, _, _, ht, h, hlt, hs => by
    obtain ⟨v, vs1, d, ds1, a, b, rfl, rfl, rfl, h1, h2⟩ := trodAll_cons h
    have hr := ht t (List.mem_cons_self ..)
    exact trodAll_cons_mk
      (WideElems.Trod_stays hl hr.1 hr.2 h1 (fun p hp => hsame p (hlt p (List.mem_append_left _ hp))) (fun p hp => hs p (List.mem_append_left _ hp)))
      (trodAll_below hl hsame (fun t' h' => ht t' (List.mem_cons_of_mem _ h')) h2 (fun p hp => hlt p (List.mem_append_right _ hp)) (fun p hp => hs p (List.mem_append_right _ hp)))
theorem law_post {f : Func} {s : ChangeSpec} {apart fresh handsOn again : Bool} {W W' : World} {args : Array Value} {ds gs : List (DataW H)} {before : List MemPlace} {tb : TypeId}
    (hl : laidOutB P = true) (hts : ∀ t ∈ f.params.toList, P.readableRec t = true ∧ t < P.types.size) (hrt : f.resultTypes = #[tb]) (htb : P.underlying tb = some .bool) (hvars : s.vars = [])
    (hfn : (s.fn H (ds ++ gs)) = { results := [.lit (.bool true)], args := ds })
    (hW : DataW.Whole enc P f.params.toList s.vars apart W args.toList ds gs before) (hb : Below W.heap.size W W') :
    s.post enc P f apart fresh handsOn again W args (.bool true) W' := by
  obtain ⟨p, q, hA, hV, rfl, hfz, hnd⟩ := hW
  have hV' := hV
  rw [hvars] at hV'
  obtain ⟨rfl, rfl⟩ := trodVars_none hV'
  have hW : DataW.Whole enc P f.params.toList s.vars apart W args.toList ds [] (p ++ []) := ⟨p, [], hA, hV, rfl, hfz, hnd⟩
  have hlt : ∀ x ∈ p, x.block < W.heap.size := fun x hx => hW.lt x (by simpa using hx)
  have hargs : ∀ sp : Nat → Bool, (∀ x ∈ p ++ [], sp x.block = true) → DataW.TrodAll enc P W' 0 sp true f.params.toList args.toList (s.fn H (ds ++ [])).args p := fun sp hs => by
    rw [hfn]
    exact trodAll_below hl (fun x hx => hb.same hx) hts hA hlt (fun x hx => hs x (by simpa using hx))
  have hres : ∀ (b : Nat) (sp : Nat → Bool) (hd : Bool), DataW.TrodAll enc P W' b sp hd f.resultTypes.toList ((Value.bool true).resultList f.resultTypes.size) (s.fn H (ds ++ [])).results [] := fun b sp hd => by
    rw [hfn, hrt]
    exact trodAll_mk1 (shut_bool htb true)
  have hvs : ∀ sp : Nat → Bool, DataW.TrodVars enc P W' sp s.vars (s.fn H (ds ++ [])).vars [] := fun sp => by
    rw [hfn, hvars]
    rfl
  have hold : ∀ x ∈ p ++ [], (fun b => decide (b < W.heap.size)) x.block = true := fun x hx => by simpa using hlt x (by simpa using hx)
  refine ⟨ds, [], p ++ [], [], p, [], hW, hres _ _ _, hargs _ hold, hvs _, World.keptBut_mono (fun x hx => ⟨hx, Or.inr (by simpa using hx)⟩) (hb.frame (· ∈ p ++ [])), fun _ => ?_⟩
  refine ⟨ok_one hrt rfl (okWide_bool_mk htb true), [.lit (.bool true)] ++ ds, (s.fn H (ds ++ [])).vars, ([] ++ p) ++ [], ⟨[] ++ p, [], ?_, hvs _, rfl, ?_, ?_⟩, ?_⟩
  · have := trodAll_append (hargs _ (fun _ _ => rfl)) (hres 0 (fun _ => true) true)
    rw [hfn] at this
    exact this
  · intro b off hp
    have hin : MemPlace.cell b off ∈ p := by simpa using hp
    rw [hb.frozen (hlt _ hin)]
    exact hfz b off (by simpa using hin)
  · intro ha
    simpa using hnd ha
  · intro x hx _
    simpa using hx
theorem law_lift {C : Checked} {os : Os} {f : FuncId} {fn : Func} {s : OpenSpec} {F : Stop.Interp} {conds : List PathCond} {apart fresh handsOn again : Bool} {laid : List (String × DataW Unit)} {tb : TypeId}
    (own : ownKnob C.prog.godebug = none) (started : os.Started) (noInit : C.prog.inits.idxOf? f = none) (hfn : C.prog.funcs[f]? = some fn)
    (hl : laidOutB C.prog = true) (hts : ∀ t ∈ fn.params.toList, C.prog.readableRec t = true ∧ t < C.prog.types.size) (hrt : fn.resultTypes = #[tb]) (htb : C.prog.underlying tb = some .bool) (hvars : s.vars = [])
    (witness : ∃ (w : World) (tape : Tape) (i : Input), w.os = os ∧ (w.forCall tape i).Shaped C.prog ∧ i.vars = [] ∧ Input.okWide C.prog (w.forCall tape i) .any w.heap.size f i ∧
      s.preRow enc C.prog fn conds apart laid (w.forCall tape i).memory i.args ∧ ({} : Assume).holds C.prog (lone (Frame.enter C.prog f i.args .normal) [] (w.forCall tape i)))
    (contract : ∀ (W : World) (base : Nat) (args : Array Value) (ds : List (DataW H)) (ps : List MemPlace),
      (∀ (j : Nat) t v, fn.params[j]? = some t → args[j]? = some v → Value.okWide C.prog W .any base t v) →
      DataW.TrodAll enc C.prog W 0 (fun _ => true) true fn.params.toList args.toList ds ps → (∀ p ∈ ps, p.block < W.heap.size) →
      (∀ k, s.cond = some k → k H ds = true) →
      (DataW.weightsEach C.prog fn.params.toList ds).all (· ≤ reachBytes) = true →
      laidMetH C.prog laid W → W.ShapedOpen C.prog → s.fn F H ds = { results := [.lit (.bool true)], args := ds } ∧
      Calls C.prog f args W fun e W' => e = .returned (.bool true) ∧ Below W.heap.size W W') :
    ReturnsInHanded {} C os f .any (s.preRow enc C.prog fn conds apart laid) ((s.at F).post enc C.prog fn apart fresh handsOn again) := by
  refine returnsInHanded_of_row (C := C) (s := s) own started noInit hfn witness ?_
  intro W base args ds gs before hval hW _ hcond hwt hL hsh _
  obtain ⟨p, q, hA, hV, hpq, hfz, hnd⟩ := id hW
  have hV' := hV
  rw [hvars] at hV'
  obtain ⟨rfl, rfl⟩ := trodVars_none hV'
  have hvt : s.bare.plain.varTypes C.prog = [] := by
    have : s.bare.plain.vars = [] := hvars
    simp [DataSpec.varTypes, this]
  rw [hvt] at hwt
  simp only [List.append_nil] at hwt hpq hcond
  subst hpq
  have hlt : ∀ x ∈ before, x.block < W.heap.size := fun x hx => hW.lt x hx
  obtain ⟨he, hc⟩ := contract W base args ds before hval hA hlt hcond hwt hL hsh
  refine hc.mono fun e W' ⟨hr, hb⟩ => ⟨_, hr, ?_⟩
  exact law_post (s := s.at F) hl hts hrt htb hvars (by simpa [OpenSpec.at] using he) hW hb
end
end Go.Proofs.YtpbgihhfcdggkaaGreatDoor
end
section
namespace Go.Proofs.YtpbgihhfcdggkaaGreatDoor
open Go.RowKit Go.Lib Go.Shelf
set_option linter.unusedVariables false
set_option maxRecDepth 1000000
set_option maxHeartbeats 4000000
section
variable {P : Program}
theorem run_copy_sz (w : World) (dT sT ty elem : TypeId) (k b o dLen dCap : Nat) (a : Addr) (sLen sCap : Nat) (cs : List Value)
    (hu : P.underlying dT = some (.slice elem)) (hs : (P.info? elem).map (·.size) = some k) (hn : cs.length = Nat.min sLen dLen * k)
    (hsrc : ∀ j v, cs[j]? = some v → w.cell? (a.add j) = some v) (hc : ∀ j, j < cs.length → (w.cell? ⟨b, o + j, none⟩).isSome = true) (hf : ∀ j, j < cs.length → w.frozen? ⟨b, o + j, none⟩ = false) (h1 : ∀ v ∈ cs, v.oneCell' = true) :
    (Builtin.copy_ #[dT, sT] ty #[.slice (some ⟨b, o, none⟩) dLen dCap, .slice (some a) sLen sCap]).run P w = .ok (goInt (Nat.min sLen dLen)) (w.setCells b o cs) := by
  have hl := run_loadCells_list (P := P) w a cs hsrc
  have hst := run_storeCells_cells (P := P) b o cs 0 w (by simpa using hc) (by simpa using hf) h1
  cases hq : P.info? elem with
  | none => simp [hq] at hs
  | some i =>
    have hi : i.size = k := by simpa [hq] using hs
    rw [hn] at hl
    simp [Builtin.copy_, run_underlying hu, Builtin.lenOf, Builtin.firstCells, sizeOf, typeInfo, hq, hi, hl, hst]
theorem run_clear_sz (w : World) (t e ty : TypeId) (z : Value) (zs : List Value) (ht : P.underlying t = some (.slice e)) (hv : ∀ w, (zeroValue e).run P w = .ok z w) (n : Nat) (hz : (Builtin.zeroCells z.cells n).toList = zs) (h1 : ∀ v ∈ zs, v.oneCell' = true) (b o c : Nat) (hn : 0 < n)
    (hc : ∀ j, j < zs.length → (w.cell? ⟨b, o + j, none⟩).isSome = true) (hf : ∀ j, j < zs.length → w.frozen? ⟨b, o + j, none⟩ = false) :
    (Builtin.clear_ #[t] ty #[.slice (some ⟨b, o, none⟩) n c]).run P w = .ok (.tuple #[]) (w.setCells b o zs) := by
  have hst := run_storeCells_cells (P := P) b o zs 0 w (by simpa using hc) (by simpa using hf) h1
  simp only [Nat.add_zero] at hst
  obtain ⟨m, rfl⟩ : ∃ m, n = m + 1 := ⟨n - 1, by omega⟩
  simp [Builtin.clear_, run_underlying ht, hv, hz, hst]
end
def ze : Value := .string ⟨#[]⟩
def zval : Value := .agg #[ze, ze]
theorem val_info : (Tryz.prog.info? 53).map (fun i => (i.size, i.zero, i.bytes)) = some (2, some zval, 32) := by kernel_rfl
theorem val_info' : ∃ i, Tryz.prog.info? 53 = some i ∧ i.size = 2 ∧ i.zero = some zval ∧ i.bytes = 32 := by
  obtain ⟨i, h1, h2⟩ := Option.map_eq_some_iff.1 val_info
  simp only [Prod.mk.injEq] at h2
  exact ⟨i, h1, h2.1, h2.2.1, h2.2.2⟩
theorem zero_cells2 (a b : Value) : (Builtin.zeroCells #[a, b] 1).toList = [a, b] := by
  simp [Builtin.zeroCells, List.range_succ]
theorem val_size : (Tryz.prog.info? 53).map (·.size) = some 2 := by kernel_rfl
theorem val_zero (w : World) : (zeroValue 53).run Tryz.prog w = .ok zval w := by
  obtain ⟨i, h1, _, h2, _⟩ := val_info'
  simp [zeroValue, typeInfo, h1, h2]
theorem del_val (b c n p j : Nat) (hpj : j = p + 1) (cs : List Value) (w : World) (hh : w.heap[b]? = some (.cells cs.toArray 53 (0, 0))) (hp : p < n) (hn : n ≤ c) (hc : c * 2 ≤ cs.length) (hok : c ≤ 9223372036854775807) (h1 : ∀ k v, k < n * 2 → cs[k]? = some v → v.oneCell' = true) :
    Calls Tryz.prog 153 #[.slice (some ⟨b, 0, none⟩) n c, .int .i64 p, .int .i64 j] w fun e w' => e = .returned (.slice (some ⟨b, 0, none⟩) (n - 1) c) ∧
      w' = (w.drew.setCells b (p * 2) ((cs.take (n * 2)).drop (j * 2))).setCells b ((n - 1) * 2) [ze, ze] := by
  have mixed : Tryz.prog.follows .mixedOrders = true := by kernel_rfl
  have tS := Tryz.underlying30; have aS := Tryz.isAgg30; have zS := Tryz.sizeOf30; have vS := Tryz.zeroValue30; have uS := run_underlying Tryz.underlying30
  have tV := Tryz.underlying53; have aV := Tryz.isAgg53; have zV := Tryz.sizeOf53; have uV := run_underlying Tryz.underlying53
  have tI := Tryz.underlying3; have aI := Tryz.isAgg3; have zI := Tryz.sizeOf3; have vI := Tryz.zeroValue3; have uI := run_underlying Tryz.underlying3
  obtain ⟨i0, hi0, hz1, hz0, hz2⟩ := val_info'
  obtain ⟨news, hnews⟩ : ∃ news, news = (cs.take (n * 2)).drop (j * 2) := ⟨_, rfl⟩
  have hlen : news.length = (n - j) * 2 := by rw [hnews, List.length_drop, List.length_take]; omega
  have hcell : ∀ (x : World) k, x.heap[b]? = some (.cells cs.toArray 53 (0, 0)) → x.cell? ⟨b, k, none⟩ = cs[k]? := fun x k h => by
    simp [World.cell?, h]
  have hfz : ∀ (x : World) k, x.heap[b]? = some (.cells cs.toArray 53 (0, 0)) → x.frozen? ⟨b, k, none⟩ = false := fun x k h => by
    simp [World.frozen?, h]
  have hd : w.drew.heap[b]? = some (.cells cs.toArray 53 (0, 0)) := hh
  have hget : ∀ t u, news[t]? = some u → cs[j * 2 + t]? = some u ∧ j * 2 + t < n * 2 := fun t u h => by
    rw [hnews, List.getElem?_drop, List.getElem?_take] at h
    split at h
    · rename_i q; exact ⟨h, q⟩
    · cases h
  obtain ⟨A, hA, hsrc⟩ : ∃ A : Addr, (if c = j then some (⟨b, 0, none⟩ : Addr) else some ⟨b, j * 2, none⟩) = some A ∧ Hid (∀ t u, news[t]? = some u → w.drew.cell? (A.add t) = some u) := by
    by_cases h : c = j
    · refine ⟨⟨b, 0, none⟩, by simp [h], fun t u hu => ?_⟩
      have := (hget t u hu).2
      omega
    · refine ⟨⟨b, j * 2, none⟩, by simp [h], fun t u hu => ?_⟩
      rw [Addr.add_lit, hcell _ _ hd]
      exact (hget t u hu).1
  have s1 : Hid (news.length = (n - j) * 2) := hlen
  have s2 : Hid (∀ u ∈ news, u.oneCell' = true) := fun u hu => by
    obtain ⟨t, ht, rfl⟩ := List.getElem_of_mem hu
    obtain ⟨q1, q2⟩ := hget t _ (List.getElem?_eq_getElem ht)
    exact h1 _ _ q2 q1
  have s3 : Hid (∀ t, t < news.length → (w.drew.cell? ⟨b, 0 + p * 2 + t, none⟩).isSome = true ∧ w.drew.frozen? ⟨b, 0 + p * 2 + t, none⟩ = false) := fun t ht => by
    rw [hlen] at ht
    exact ⟨by rw [hcell _ _ hd, List.getElem?_eq_getElem (by omega)]; rfl, hfz _ _ hd⟩
  obtain ⟨W1, hW1⟩ : ∃ W1, W1 = w.drew.setCells b (0 + p * 2) news := ⟨_, rfl⟩
  have hcl : ∀ ty, (Builtin.clear_ #[30] ty #[.slice (some ⟨b, (n - 1) * 2, none⟩) (n - (n - 1)) (c - (n - 1))]).run Tryz.prog W1 = .ok (.tuple #[]) (W1.setCells b ((n - 1) * 2) [ze, ze]) := fun ty =>
    run_clear_sz W1 _ _ ty zval [ze, ze] tS val_zero (n - (n - 1)) (by rw [show n - (n - 1) = 1 by omega]; exact zero_cells2 ze ze) (by simp [ze, Value.oneCell']) b _ _ (by omega)
      (fun k hj => by
        rw [hW1, isSome_setCells b news (0 + p * 2) w.drew (fun t ht => (s3.out t ht).1) _ (by
          rw [hcell _ _ hd, List.getElem?_eq_getElem (by simp at hj; omega)]; rfl)])
      (fun k hj => by rw [hW1, World.frozen?_setCells]; exact hfz _ _ hd)
  have hW : Hid (W1 = w.drew.setCells b (0 + p * 2) news) := hW1
  have hic : p ≤ c := by omega
  have hjc : j ≤ c := by omega
  have hne : ¬ ((p : Int) = (j : Int)) := by omega
  rw [← hnews]
  have hj0 : p < j := by omega
  have hjn : j ≤ n := by omega
  have hlast : p + (n - j) = n - 1 := by omega
  have X : Aside (j = p + 1) := hpj
  clear hpj
  clear hW1 hget hnews hlen hh hd hcell hfz h1
  go_enter Tryz.func153, Tryz.ntmps153
  go_wp2_with fail
  go_region_law_o (refine step_append_room rfl (.tmp 22) (.tmp 25) 30 rfl 53 i0 2 tS hi0 hz1 b 0 p c (by simp [Act.eval, Act.put]) A (n - j) (c - j) news (by simp [Act.eval, Act.put]) s1.out hsrc.out s2.out (by omega) s3.out ?_; rw [← hW.out])
  go_wp2
  go_ret
  exact ⟨rfl, by rw [hW.out, Nat.zero_add]⟩
end Go.Proofs.YtpbgihhfcdggkaaGreatDoor
end
section
namespace Go.Proofs.YtpbgihhfcdggkaaGreatDoor
open Go.RowKit Go.Lib Go.Shelf
set_option maxRecDepth 1000000
set_option maxHeartbeats 4000000
set_option linter.unusedVariables false
theorem ins_end_room (b n c vb m vc : Nat) (vs : List Value) (w : World) (hm : 0 < m) (hroom : n + m ≤ c) (hc63 : c ≤ 9223372036854775807)
    (hvl : vs.length = m * 2) (hsp : ∀ j, j < vs.length → (w.cell? ⟨b, n * 2 + j, none⟩).isSome = true) (hfz : ∀ j, j < vs.length → w.frozen? ⟨b, n * 2 + j, none⟩ = false)
    (hvs : ∀ j v, vs[j]? = some v → w.cell? ⟨vb, j, none⟩ = some v) (h1v : ∀ v ∈ vs, v.oneCell' = true) :
    Calls Tryz.prog 154 #[.slice (some ⟨b, 0, none⟩) n c, .int .i64 n, .slice (some ⟨vb, 0, none⟩) m vc] w fun e w' =>
      e = .returned (.slice (some ⟨b, 0, none⟩) (n + m) c) ∧ w' = w.setCells b (n * 2) vs := by
  have mixed : Tryz.prog.follows .mixedOrders = true := by kernel_rfl
  have tS := Tryz.underlying30; have aS := Tryz.isAgg30; have zS := Tryz.sizeOf30; have vS := Tryz.zeroValue30; have uS := run_underlying Tryz.underlying30
  have tV := Tryz.underlying53; have aV := Tryz.isAgg53; have zV := Tryz.sizeOf53; have uV := run_underlying Tryz.underlying53
  have tI := Tryz.underlying3; have aI := Tryz.isAgg3; have zI := Tryz.sizeOf3; have vI := Tryz.zeroValue3; have uI := run_underlying Tryz.underlying3
  obtain ⟨i0, hi0, hz1, hz0, hz2⟩ := val_info'
  have hzm : ¬ ((m : Int) = 0) := by omega
  have hsrc : Src Tryz.prog i0.size 30 (.slice (some ⟨vb, 0, none⟩) m vc) m vs w := by
    rw [hz1]
    exact Src.ofSlice w tS ⟨vb, 0, none⟩ m vc vs hvl (fun j u hj => by rw [Addr.add_lit, Nat.zero_add]; exact hvs j u hj) h1v
  have hrun : ∀ ty, (Builtin.append_ #[30, 30] ty #[.slice (some ⟨b, 0, none⟩) n c, .slice (some ⟨vb, 0, none⟩) m vc]).run Tryz.prog w = .ok (.slice (some ⟨b, 0, none⟩) (n + m) c) (w.setCells b (n * 2) vs) := fun ty => by
    have := run_append_room_src w 30 30 ty 53 i0 tS hi0 b 0 n c _ m vs hsrc hroom (by rw [hz1, Nat.zero_add]; exact hsp) (by rw [hz1, Nat.zero_add]; exact hfz)
    rw [hz1, Nat.zero_add] at this
    exact this
  clear hsp hfz hvs
  go_enter Tryz.func154, Tryz.ntmps154
  go_wp2_with (at_builtin; refine Lib.wpList_append_run _ rfl _ _ _ _ rfl _ _ rfl rfl _ _ (hrun _) ?_)
  go_ret
  exact ⟨rfl, rfl⟩
theorem ins_end_grow (base : Option Addr) (n c vb m vc : Nat) (cs vs : List Value) (w : World) (hm : 0 < m) (hnc : n ≤ c) (hroom : c < n + m) (hbig : (n + m) * 32 ≤ 140737488355328)
    (hcl : cs.length = n * 2) (hvl : vs.length = m * 2) (hnil : base = none → n = 0)
    (hcs : ∀ a, base = some a → ∀ j v, cs[j]? = some v → w.cell? (a.add j) = some v)
    (hvs : ∀ j v, vs[j]? = some v → w.cell? ⟨vb, j, none⟩ = some v) (h1v : ∀ v ∈ vs, v.oneCell' = true) :
    Calls Tryz.prog 154 #[.slice base n c, .int .i64 n, .slice (some ⟨vb, 0, none⟩) m vc] w fun e w' =>
      e = .returned (.slice (some ⟨w.heap.size, 0, none⟩) (n + m) (grownCap w (n + m) c 53)) ∧
      w' = w.drew.alloc (.cells ((cs ++ vs).toArray ++ Builtin.zeroCells zval.cells (grownCap w (n + m) c 53 - (n + m))) 53) := by
  have mixed : Tryz.prog.follows .mixedOrders = true := by kernel_rfl
  have tS := Tryz.underlying30; have aS := Tryz.isAgg30; have zS := Tryz.sizeOf30; have vS := Tryz.zeroValue30; have uS := run_underlying Tryz.underlying30
  have tV := Tryz.underlying53; have aV := Tryz.isAgg53; have zV := Tryz.sizeOf53; have uV := run_underlying Tryz.underlying53
  have tI := Tryz.underlying3; have aI := Tryz.isAgg3; have zI := Tryz.sizeOf3; have vI := Tryz.zeroValue3; have uI := run_underlying Tryz.underlying3
  obtain ⟨i0, hi0, hz1, hz0, hz2⟩ := val_info'
  have hzm : ¬ ((m : Int) = 0) := by omega
  have hsrc : Src Tryz.prog i0.size 30 (.slice (some ⟨vb, 0, none⟩) m vc) m vs w := by
    rw [hz1]
    exact Src.ofSlice w tS ⟨vb, 0, none⟩ m vc vs hvl (fun j u hj => by rw [Addr.add_lit, Nat.zero_add]; exact hvs j u hj) h1v
  have hold : (Builtin.firstCells i0.size n (.slice base n c)).run Tryz.prog w.drew = .ok cs.toArray w.drew := by
    rw [hz1]
    cases base with
    | none =>
      have h0 := hnil rfl
      subst h0
      have hc0 : cs = [] := List.length_eq_zero_iff.1 (by simpa using hcl)
      subst hc0
      exact run_firstCells_none w.drew 2 0 0 c
    | some a => exact run_firstCells_some w.drew 2 n a n c cs hcl (fun j v hj => hcs a rfl j v hj)
  have hrun : ∀ ty, (Builtin.append_ #[30, 30] ty #[.slice base n c, .slice (some ⟨vb, 0, none⟩) m vc]).run Tryz.prog w = _ := fun ty =>
    run_append_grow_src w 30 30 ty 53 i0 zval tS hi0 hz0 base n c cs hold _ m vs hsrc hroom (by omega) (by rw [hz2]; exact growslice_fits hroom hbig)
  clear hcs hvs
  generalize Builtin.zeroCells zval.cells (grownCap w (n + m) c 53 - (n + m)) = ZC at hrun ⊢
  generalize grownCap w (n + m) c 53 = G at hrun ⊢
  clear hold hsrc
  go_enter Tryz.func154, Tryz.ntmps154
  cases base with
  | none =>
    have h0 := hnil rfl
    subst h0
    go_wp2_with (at_builtin; refine Lib.wpList_append_run _ rfl _ _ _ _ rfl _ _ rfl rfl _ _ (hrun _) ?_)
    go_ret
    exact ⟨rfl, rfl⟩
  | some a =>
    obtain ⟨ab, ao, asp⟩ := a
    go_wp2_with (at_builtin; refine Lib.wpList_append_run _ rfl _ _ _ _ rfl _ _ rfl rfl _ _ (hrun _) ?_)
    all_goals (go_ret; exact ⟨rfl, rfl⟩)
theorem ins_shift (b n c i vb m vc : Nat) (cs vs : List Value) (w : World) (hi : i < n) (hm : 0 < m) (hroom : n + m ≤ c) (hc63 : c ≤ 9223372036854775807) (hvb : vb ≠ b)
    (hcl : cs.length = n * 2) (hvl : vs.length = m * 2)
    (hcs : ∀ j v, cs[j]? = some v → w.cell? ⟨b, j, none⟩ = some v) (hsp : ∀ j, j < (n + m) * 2 → (w.cell? ⟨b, j, none⟩).isSome = true) (hfz : ∀ j, j < (n + m) * 2 → w.frozen? ⟨b, j, none⟩ = false)
    (hvs : ∀ j v, vs[j]? = some v → w.cell? ⟨vb, j, none⟩ = some v) (h1c : ∀ v ∈ cs, v.oneCell' = true) (h1v : ∀ v ∈ vs, v.oneCell' = true)
    (tA tB : TypeId) (kA kB : Nat) (hsa : w.shape? vb = some (tA, kA)) (hsb : w.shape? b = some (tB, kB)) (hkB : kB ≠ 0) (hfa : w.frozen? ⟨vb, 0, none⟩ = false) (hfe : w.frozen? ⟨vb, kA, none⟩ = false) :
    Calls Tryz.prog 154 #[.slice (some ⟨b, 0, none⟩) n c, .int .i64 i, .slice (some ⟨vb, 0, none⟩) m vc] w fun e w' =>
      e = .returned (.slice (some ⟨b, 0, none⟩) (n + m) c) ∧ w' = (w.drew.setCells b ((i + m) * 2) (cs.drop (i * 2))).setCells b (i * 2) vs := by
  have mixed : Tryz.prog.follows .mixedOrders = true := by kernel_rfl
  have tS := Tryz.underlying30; have aS := Tryz.isAgg30; have zS := Tryz.sizeOf30; have vS := Tryz.zeroValue30; have uS := run_underlying Tryz.underlying30
  have tV := Tryz.underlying53; have aV := Tryz.isAgg53; have zV := Tryz.sizeOf53; have uV := run_underlying Tryz.underlying53
  have tI := Tryz.underlying3; have aI := Tryz.isAgg3; have zI := Tryz.sizeOf3; have vI := Tryz.zeroValue3; have uI := run_underlying Tryz.underlying3
  have hz1 : ¬ ((m : Int) = 0) := by omega
  have hz2 : ¬ ((i : Int) = (n : Int)) := by omega
  have hsz := val_size
  have hov : ∀ lb cb, (callFunc 155 #[.slice (some ⟨vb, 0, none⟩) m vc, .slice (some ⟨b, (i + m) * 2, none⟩) lb cb]).run Tryz.prog w = .ok (.value (.bool false)) w := fun lb cb => by
    rw [run_callFunc_extern Tryz.func155 (by kernel_rfl) (by kernel_rfl) (by kernel_rfl) (e := Extern.SlicesOverlaps.overlaps #[30, 30] #[4]) (by kernel_rfl),
      Lib.run_overlaps_apart w 30 4 53 tS 2 zV ⟨vb, 0, none⟩ ⟨b, (i + m) * 2, none⟩ m vc lb cb hvb tA tB kA kB hsa hsb hkB hfa hfe]
    rfl
  have hdl : (cs.drop (i * 2)).length = (n - i) * 2 := by rw [List.length_drop, hcl]; omega
  have hw1 : IntKind.i64.wrap ((i : Int) + (m : Int)) = (i : Int) + (m : Int) := by rw [IntKind.wrap_i64]; omega
  have hb1 : (0 : Int) ≤ (i : Int) + (m : Int) := by omega
  have hin : i ≤ n := by omega
  have htn : ((i : Int) + (m : Int)).toNat = i + m := by omega
  have hb2 : ¬ (c = i + m) := by omega
  have hb3 : (i : Int) ≤ (n : Int) + (m : Int) := by omega
  have hb4 : ¬ (c = i) := by omega
  have hcp1 : ∀ ty dc sc, ∃ v, (Builtin.copy_ #[30, 30] ty #[.slice (some ⟨b, (i + m) * 2, none⟩) (n + m - (i + m)) dc, .slice (some ⟨b, i * 2, none⟩) (n + m - i) sc]).run Tryz.prog w.drew = .ok v (w.drew.setCells b ((i + m) * 2) (cs.drop (i * 2))) := fun ty dc sc =>
    ⟨_, run_copy_sz w.drew _ _ ty 53 2 b ((i + m) * 2) (n + m - (i + m)) dc ⟨b, i * 2, none⟩ (n + m - i) sc (cs.drop (i * 2)) tS hsz (by rw [hdl]; simp only [Nat.min_def]; split <;> omega)
      (fun j v hj => by rw [Addr.add_lit]; exact hcs (i * 2 + j) v (by rwa [List.getElem?_drop] at hj))
      (fun j hj => hsp _ (by omega)) (fun j hj => hfz _ (by omega)) (fun v hv => h1c v (List.mem_of_mem_drop hv))⟩
  obtain ⟨W1, hW1⟩ : ∃ W1, W1 = w.drew.setCells b ((i + m) * 2) (cs.drop (i * 2)) := ⟨_, rfl⟩
  have hsp1 : ∀ k, k < (n + m) * 2 → (W1.cell? ⟨b, k, none⟩).isSome = true := fun k hk => by
    rw [hW1]
    exact isSome_setCells b (cs.drop (i * 2)) ((i + m) * 2) w.drew (fun j hj => hsp _ (by omega)) _ (hsp k hk)
  have hcp2 : ∀ (W : World), (∀ x, W.cell? x = W1.cell? x) → (∀ x, W.frozen? x = W1.frozen? x) → ∀ ty dc, ∃ v, (Builtin.copy_ #[30, 30] ty #[.slice (some ⟨b, i * 2, none⟩) (n + m - i) dc, .slice (some ⟨vb, 0, none⟩) m vc]).run Tryz.prog W = .ok v (W.setCells b (i * 2) vs) := fun W hWc hWf ty dc =>
    ⟨_, run_copy_sz W _ _ ty 53 2 b (i * 2) (n + m - i) dc ⟨vb, 0, none⟩ m vc vs tS hsz (by rw [hvl]; simp only [Nat.min_def]; split <;> omega)
      (fun j v hj => by
        rw [Addr.add_lit, Nat.zero_add, hWc, hW1, World.cell?_setCells_out b _ _ _ _ (fun h _ => absurd h hvb)]
        exact hvs j v hj)
      (fun j hj => by rw [hWc]; exact hsp1 _ (by omega)) (fun j hj => by rw [hWf, hW1, World.frozen?_setCells]; exact hfz _ (by omega)) h1v⟩
  rw [← hW1] at hcp1
  obtain ⟨f1, hf1⟩ : ∃ f1 : TypeId → Nat → Nat → Value, ∀ ty dc sc, (Builtin.copy_ #[30, 30] ty #[.slice (some ⟨b, (i + m) * 2, none⟩) (n + m - (i + m)) dc, .slice (some ⟨b, i * 2, none⟩) (n + m - i) sc]).run Tryz.prog w.drew = .ok (f1 ty dc sc) W1 := ⟨fun ty dc sc => (hcp1 ty dc sc).choose, fun ty dc sc => (hcp1 ty dc sc).choose_spec⟩
  obtain ⟨v2, hv2⟩ : ∃ v2 : World → TypeId → Nat → Value, ∀ (W : World), (∀ x, W.cell? x = W1.cell? x) → (∀ x, W.frozen? x = W1.frozen? x) → ∀ ty dc, (Builtin.copy_ #[30, 30] ty #[.slice (some ⟨b, i * 2, none⟩) (n + m - i) dc, .slice (some ⟨vb, 0, none⟩) m vc]).run Tryz.prog W = .ok (v2 W ty dc) (W.setCells b (i * 2) vs) := by
    refine ⟨fun W ty dc => Classical.epsilon fun v => (Builtin.copy_ #[30, 30] ty #[.slice (some ⟨b, i * 2, none⟩) (n + m - i) dc, .slice (some ⟨vb, 0, none⟩) m vc]).run Tryz.prog W = .ok v (W.setCells b (i * 2) vs), fun W h1 h2 ty dc => Classical.epsilon_spec (hcp2 W h1 h2 ty dc)⟩
  clear hcp1 hcp2 hsp hfz hvs hcs hsp1
  go_enter Tryz.func154, Tryz.ntmps154
  go_wp2_with (simp only [hov])
  go_region_law_o (refine step_copy_runI rfl _ _ 30 30 rfl _ _ (by simp [Act.eval, Act.put]) (by simp [Act.eval, Act.put]) (hf1 _ _ _) ?_)
  go_wp2_with (at_builtin; refine wpList_copy_runI _ rfl _ _ 30 30 rfl _ _ rfl rfl (hv2 _ (fun _ => rfl) (fun _ => rfl) _ _) ?_)
  go_ret
  first | exact ⟨rfl, rfl⟩ | exact ⟨rfl, by rw [hW1]⟩
end Go.Proofs.YtpbgihhfcdggkaaGreatDoor
end
section
namespace Go.Proofs.YtpbgihhfcdggkaaGreatDoor
open Go.RowKit Go.Lib Go.Shelf
set_option maxRecDepth 1000000
set_option maxHeartbeats 4000000
set_option linter.unusedVariables false
theorem ins_grow (b n c i vb m vc : Nat) (cs vs : List Value) (w : World) (hi : i < n) (hm : 0 < m) (hnc : n ≤ c) (hroom : c < n + m) (hbig : (n + m) * 32 ≤ 140737488355328)
    (hcl : cs.length = n * 2) (hvl : vs.length = m * 2)
    (hcs : ∀ j v, cs[j]? = some v → w.cell? ⟨b, j, none⟩ = some v)
    (hvs : ∀ j v, vs[j]? = some v → w.cell? ⟨vb, j, none⟩ = some v) (h1c : ∀ v ∈ cs, v.oneCell' = true) (h1v : ∀ v ∈ vs, v.oneCell' = true) :
    Calls Tryz.prog 154 #[.slice (some ⟨b, 0, none⟩) n c, .int .i64 i, .slice (some ⟨vb, 0, none⟩) m vc] w fun e w' =>
      e = .returned (.slice (some ⟨w.heap.size, 0, none⟩) (n + m) (grownCap w (n + m) c 53)) ∧
      w' = (((w.alloc (.cells ((cs.take (i * 2)).toArray ++ Builtin.zeroCells zval.cells (n + m - i) ++ Builtin.zeroCells zval.cells (grownCap w (n + m) c 53 - (n + m))) 53)).drew.setCells w.heap.size (i * 2) vs).drew).setCells w.heap.size ((i + m) * 2) (cs.drop (i * 2)) := by
  have mixed : Tryz.prog.follows .mixedOrders = true := by kernel_rfl
  have tS := Tryz.underlying30; have aS := Tryz.isAgg30; have zS := Tryz.sizeOf30; have vS := Tryz.zeroValue30; have uS := run_underlying Tryz.underlying30
  have tV := Tryz.underlying53; have aV := Tryz.isAgg53; have zV := Tryz.sizeOf53; have uV := run_underlying Tryz.underlying53
  have tI := Tryz.underlying3; have aI := Tryz.isAgg3; have zI := Tryz.sizeOf3; have vI := Tryz.zeroValue3; have uI := run_underlying Tryz.underlying3
  obtain ⟨i0, hi0, hzs, hz0, hzb⟩ := val_info'
  have hz1 : ¬ ((m : Int) = 0) := by omega
  have hz2 : ¬ ((i : Int) = (n : Int)) := by omega
  have hz3 : (c : Int) < (n : Int) + (m : Int) := by omega
  have hsz := val_size
  have hbw : b < w.heap.size := block_lt_of_cell (hcs 0 _ (List.getElem?_eq_getElem (by omega)))
  have hvw : vb < w.heap.size := block_lt_of_cell (hvs 0 _ (List.getElem?_eq_getElem (by omega)))
  have hkk : (n : Int) + (m : Int) - (i : Int) = ((n + m - i : Nat) : Int) := by omega
  have hik : i + (n + m - i) = n + m := by omega
  have hold : (Builtin.firstCells i0.size i (.slice (some ⟨b, 0, none⟩) i c)).run Tryz.prog w.drew = .ok (cs.take (i * 2)).toArray w.drew := by
    rw [hzs]
    exact run_firstCells_some w.drew 2 i ⟨b, 0, none⟩ i c (cs.take (i * 2)) (by rw [List.length_take]; omega) (fun j v hj => by
      rw [Addr.add_lit, Nat.zero_add]
      rw [List.getElem?_take] at hj
      split at hj
      · exact hcs j v hj
      · cases hj)
  have hrz : ∀ ty, (Builtin.append_ #[30, 3] ty #[.slice (some ⟨b, 0, none⟩) i c, .int .i64 ((n : Int) + (m : Int) - (i : Int))]).run Tryz.prog w =
      .ok (.slice (some ⟨w.heap.size, 0, none⟩) (n + m) (grownCap w (n + m) c 53)) (w.drew.alloc (.cells ((cs.take (i * 2)).toArray ++ Builtin.zeroCells zval.cells (n + m - i) ++ Builtin.zeroCells zval.cells (grownCap w (n + m) c 53 - (n + m))) 53)) := fun ty => by
    have h := Lib.run_append_grow_zeros w 30 3 ty 53 i0 zval .i64 .i64 tS tI hi0 hz0 (some ⟨b, 0, none⟩) i c (cs.take (i * 2)) hold (n + m - i) (by omega) (by omega) (by omega) (by omega) (by rw [hzb]; omega) (by rw [hzb, hik]; exact growslice_fits hroom hbig)
    rw [hik] at h
    rw [hkk]
    exact h
  obtain ⟨G, hG⟩ : ∃ G, G = grownCap w (n + m) c 53 := ⟨_, rfl⟩
  obtain ⟨ROW, hROW⟩ : ∃ ROW : Array Value, ROW = (cs.take (i * 2)).toArray ++ Builtin.zeroCells zval.cells (n + m - i) ++ Builtin.zeroCells zval.cells (G - (n + m)) := ⟨_, rfl⟩
  rw [← hG] at hrz ⊢
  rw [← hROW] at hrz ⊢
  have hRl : (n + m) * 2 ≤ ROW.size := by
    rw [hROW]
    simp [Builtin.zeroCells, Value.cells, zval]
    omega
  obtain ⟨W1, hW1⟩ : ∃ W1, W1 = w.drew.alloc (.cells ROW 53) := ⟨_, rfl⟩
  rw [← hW1] at hrz
  have hN : ∀ j, j < (n + m) * 2 → (W1.cell? ⟨w.heap.size, j, none⟩).isSome = true := fun j hj => by
    rw [hW1, World.cell?_alloc_at (w := w.drew) ROW _ w.heap.size j rfl, Array.getElem?_eq_getElem (by omega)]; rfl
  have hNf : ∀ j, W1.frozen? ⟨w.heap.size, j, none⟩ = false := fun j => by rw [hW1]; exact World.frozen?_alloc_at (w := w.drew) ROW _ w.heap.size j rfl
  have hOb : ∀ j v, w.cell? ⟨b, j, none⟩ = some v → W1.cell? ⟨b, j, none⟩ = some v := fun j v h => by rw [hW1, World.cell?_alloc_past (w := w.drew) _ b j hbw]; exact h
  have hOv : ∀ j v, w.cell? ⟨vb, j, none⟩ = some v → W1.cell? ⟨vb, j, none⟩ = some v := fun j v h => by rw [hW1, World.cell?_alloc_past (w := w.drew) _ vb j hvw]; exact h
  have hcpA : ∀ (W : World), (∀ x, W.cell? x = W1.cell? x) → (∀ x, W.frozen? x = W1.frozen? x) → ∀ ty dc, ∃ v, (Builtin.copy_ #[30, 30] ty #[.slice (some ⟨w.heap.size, i * 2, none⟩) (n + m - i) dc, .slice (some ⟨vb, 0, none⟩) m vc]).run Tryz.prog W = .ok v (W.setCells w.heap.size (i * 2) vs) := fun W hWc hWf ty dc =>
    ⟨_, run_copy_sz W _ _ ty 53 2 w.heap.size (i * 2) (n + m - i) dc ⟨vb, 0, none⟩ m vc vs tS hsz (by rw [hvl]; simp only [Nat.min_def]; split <;> omega)
      (fun j v hj => by rw [Addr.add_lit, Nat.zero_add, hWc]; exact hOv _ v (hvs j v hj))
      (fun j hj => by rw [hWc]; exact hN _ (by omega)) (fun j hj => by rw [hWf]; exact hNf _) h1v⟩
  have hGn : n + m ≤ G := by rw [hG]; exact grownCap_ge w _ _ _
  have hG63 : G ≤ 9223372036854775807 := by
    have := grownCap_le_maxLen w (n + m) c 53 (by unfold maxLen; omega)
    rw [← hG] at this
    unfold maxLen at this
    omega
  have hGi : ¬ (G = i) := by omega
  have hGim : ¬ (G = i + m) := by omega
  have hci : ¬ (c = i) := by omega
  have hbN : b ≠ w.heap.size := by omega
  have hdl : (cs.drop (i * 2)).length = (n - i) * 2 := by rw [List.length_drop, hcl]; omega
  have hcpB : ∀ (W : World), (∀ x, W.cell? x = (W1.setCells w.heap.size (i * 2) vs).cell? x) → (∀ x, W.frozen? x = (W1.setCells w.heap.size (i * 2) vs).frozen? x) → ∀ ty dc sc, ∃ v, (Builtin.copy_ #[30, 30] ty #[.slice (some ⟨w.heap.size, (i + m) * 2, none⟩) (n + m - (i + m)) dc, .slice (some ⟨b, i * 2, none⟩) (n - i) sc]).run Tryz.prog W = .ok v (W.setCells w.heap.size ((i + m) * 2) (cs.drop (i * 2))) := fun W hWc hWf ty dc sc =>
    ⟨_, run_copy_sz W _ _ ty 53 2 w.heap.size ((i + m) * 2) (n + m - (i + m)) dc ⟨b, i * 2, none⟩ (n - i) sc (cs.drop (i * 2)) tS hsz (by rw [hdl]; simp only [Nat.min_def]; split <;> omega)
      (fun j v hj => by
        rw [Addr.add_lit, hWc, World.cell?_setCells_out _ _ _ _ _ (fun h _ => absurd h hbN)]
        exact hOb _ v (hcs (i * 2 + j) v (by rwa [List.getElem?_drop] at hj)))
      (fun j hj => by rw [hWc]; exact isSome_setCells w.heap.size vs (i * 2) W1 (fun t ht => hN _ (by omega)) _ (hN _ (by omega)))
      (fun j hj => by rw [hWf, World.frozen?_setCells]; exact hNf _) (fun v hv => h1c v (List.mem_of_mem_drop hv))⟩
  subst hW1
  have hE1 : ∀ x, ((w.alloc (.cells ROW 53)).drew).cell? x = (w.drew.alloc (.cells ROW 53)).cell? x := fun x => rfl
  have hE2 : ∀ x, ((w.alloc (.cells ROW 53)).drew).frozen? x = (w.drew.alloc (.cells ROW 53)).frozen? x := fun x => rfl
  have hF1 : ∀ x, (((w.alloc (.cells ROW 53)).drew.setCells w.heap.size (i * 2) vs).drew).cell? x = ((w.drew.alloc (.cells ROW 53)).setCells w.heap.size (i * 2) vs).cell? x := fun x => rfl
  have hF2 : ∀ x, (((w.alloc (.cells ROW 53)).drew.setCells w.heap.size (i * 2) vs).drew).frozen? x = ((w.drew.alloc (.cells ROW 53)).setCells w.heap.size (i * 2) vs).frozen? x := fun x => rfl
  obtain ⟨v1, hv1⟩ : ∃ v1 : World → TypeId → Nat → Value, ∀ (W : World), (∀ x, W.cell? x = (w.drew.alloc (.cells ROW 53)).cell? x) → (∀ x, W.frozen? x = (w.drew.alloc (.cells ROW 53)).frozen? x) → ∀ ty dc, (Builtin.copy_ #[30, 30] ty #[.slice (some ⟨w.heap.size, i * 2, none⟩) (n + m - i) dc, .slice (some ⟨vb, 0, none⟩) m vc]).run Tryz.prog W = .ok (v1 W ty dc) (W.setCells w.heap.size (i * 2) vs) :=
    ⟨fun W ty dc => Classical.epsilon fun v => (Builtin.copy_ #[30, 30] ty #[.slice (some ⟨w.heap.size, i * 2, none⟩) (n + m - i) dc, .slice (some ⟨vb, 0, none⟩) m vc]).run Tryz.prog W = .ok v (W.setCells w.heap.size (i * 2) vs), fun W h1 h2 ty dc => Classical.epsilon_spec (hcpA W h1 h2 ty dc)⟩
  obtain ⟨v2, hv2⟩ : ∃ v2 : World → TypeId → Nat → Nat → Value, ∀ (W : World), (∀ x, W.cell? x = ((w.drew.alloc (.cells ROW 53)).setCells w.heap.size (i * 2) vs).cell? x) → (∀ x, W.frozen? x = ((w.drew.alloc (.cells ROW 53)).setCells w.heap.size (i * 2) vs).frozen? x) → ∀ ty dc sc, (Builtin.copy_ #[30, 30] ty #[.slice (some ⟨w.heap.size, (i + m) * 2, none⟩) (n + m - (i + m)) dc, .slice (some ⟨b, i * 2, none⟩) (n - i) sc]).run Tryz.prog W = .ok (v2 W ty dc sc) (W.setCells w.heap.size ((i + m) * 2) (cs.drop (i * 2))) :=
    ⟨fun W ty dc sc => Classical.epsilon fun v => (Builtin.copy_ #[30, 30] ty #[.slice (some ⟨w.heap.size, (i + m) * 2, none⟩) (n + m - (i + m)) dc, .slice (some ⟨b, i * 2, none⟩) (n - i) sc]).run Tryz.prog W = .ok v (W.setCells w.heap.size ((i + m) * 2) (cs.drop (i * 2))), fun W h1 h2 ty dc sc => Classical.epsilon_spec (hcpB W h1 h2 ty dc sc)⟩
  have hw1 : IntKind.i64.wrap ((i : Int) + (m : Int)) = (i : Int) + (m : Int) := by rw [IntKind.wrap_i64]; omega
  have hb1 : (0 : Int) ≤ (i : Int) + (m : Int) := by omega
  have hin : i ≤ n := by omega
  have htn : ((i : Int) + (m : Int)).toNat = i + m := by omega
  have hb3 : (i : Int) ≤ (n : Int) := by omega
  clear hkk hik hold hROW hG hRl hcpA hcpB hN hNf hOb hOv hcs hvs
  go_enter Tryz.func154, Tryz.ntmps154
  go_wp2_with (first
    | (at_builtin; refine Lib.wpList_append_run _ rfl _ _ _ _ rfl _ _ rfl rfl _ _ (hrz _) ?_)
    | (at_builtin; refine wpList_copy_runI _ rfl _ _ 30 30 rfl _ _ rfl rfl (hv1 _ hE1 hE2 _ _) ?_)
    | (at_builtin; refine wpList_copy_runI _ rfl _ _ 30 30 rfl _ _ rfl rfl (hv2 _ (fun _ => rfl) (fun _ => rfl) _ _ _) ?_))
  go_region_law_o (refine step_copy_runI rfl _ _ 30 30 rfl (.slice (some ⟨w.heap.size, (i + m) * 2, none⟩) (n + m - (i + m)) (G - (i + m))) (.slice (some ⟨b, i * 2, none⟩) (n - i) (c - i)) (by simp [Act.eval, Act.put]) (by simp [Act.eval, Act.put]) (hv2 _ hF1 hF2 3 (G - (i + m)) (c - i)) ?_)
  go_wp2
  go_ret
  exact ⟨rfl, rfl⟩
end Go.Proofs.YtpbgihhfcdggkaaGreatDoor
end
section
namespace Go.Proofs.YtpbgihhfcdggkaaGreatDoor.V
open Go.RowKit
mutual
inductive SV where
  | bool (b : Bool)
  | int (k : IntKind) (n : Int)
  | str (l : List UInt8)
  | nilp
  | ptr (id off : Nat)
  | pel (id base sz i j : Nat)
  | rop (e : EV) (i j : Nat)
  | nils
  | row (id base sz sub len : Nat)
  | ro (e : EV)
  | agg (l : List SV)
  | arr (n : Nat) (e : EV)
  | tup (l : List SV)
  | fn (f : FuncId) (cap : List SV)
  | mv (f : FuncId) (first : List SV)
  | ifc (t : TypeId) (v : SV)
  | nili
  | nilf
  | may (g : Prop) (v : SV)
  | bsl (id len : Nat)
  | anyi (k : IntKind)
  | val (x : Value)
inductive EV where
  | u8 (l : List UInt8)
  | ints (k : IntKind) (l : List Int)
  | g (n sz : Nat) (f : Nat → List SV)
end
def EV.len : EV → Nat
  | .u8 l => l.length
  | .ints _ l => l.length
  | .g n _ _ => n
def EV.sz : EV → Nat
  | .u8 _ => 1
  | .ints _ _ => 1
  | .g _ sz _ => sz
def EV.items : EV → Nat → List SV
  | .u8 l, i => [.int .u8 ((l.getD i 0).toNat : Int)]
  | .ints k l, i => [.int k (l.getD i 0)]
  | .g _ _ f, i => f i
def SV.one : SV → Bool
  | .agg _ | .arr _ _ | .tup _ | .may _ _ => false
  | .val x => x.oneCell'
  | _ => true
def inR (k : IntKind) (n : Int) : Prop := k.min ≤ n ∧ n ≤ k.max
def okLen (n : Nat) : Prop := n ≤ 9223372036854775807
abbrev Env := Nat → Option (Option Nat)
mutual
inductive Rep (E : Env) (T : Nat → Prop) (w : World) : SV → Value → Prop
  | bool (b : Bool) : Rep E T w (.bool b) (.bool b)
  | int (k : IntKind) (n : Int) (h : inR k n) : Rep E T w (.int k n) (.int k n)
  | str (l : List UInt8) (h : okLen l.length) : Rep E T w (.str l) (.string ⟨l.toArray⟩)
  | nilp : Rep E T w .nilp (.pointer none)
  | ptr (id off b : Nat) (h : E id = some (some b)) : Rep E T w (.ptr id off) (.pointer (some ⟨b, off, none⟩))
  | pel (id base sz i j b : Nat) (h : E id = some (some b)) : Rep E T w (.pel id base sz i j) (.pointer (some ⟨b, base + i * sz + j, none⟩))
  | rop (e : EV) (i j b o : Nat) (c : Nat → List Value) (hT : ¬ T b) (hn : ∀ i, i < e.len → (c i).length = e.sz)
      (hc : ∀ i j v, i < e.len → (c i)[j]? = some v → w.cell? ⟨b, o + i * e.sz + j, none⟩ = some v)
      (hr : ∀ i, i < e.len → Items E T w (e.items i) (c i)) (hi : i < e.len) (hj : j < e.sz) (hb : b < w.heap.size) :
      Rep E T w (.rop e i j) (.pointer (some ⟨b, o + i * e.sz + j, none⟩))
  | nils : Rep E T w .nils (.slice none 0 0)
  | row (id base sz sub len b o c n : Nat) (t : TypeId) (h : E id = some (some b)) (hs : w.shape? b = some (t, n))
      (ho : c ≠ 0 → o = base + sub * sz ∧ base + (sub + c) * sz ≤ n) (hl : len ≤ c) (ok : okLen c) : Rep E T w (.row id base sz sub len) (.slice (some ⟨b, o, none⟩) len c)
  | row0 (id base sz sub len : Nat) (h : E id = some none) (hl : len = 0) : Rep E T w (.row id base sz sub len) (.slice none 0 0)
  | ro0 (e : EV) (h : e.len = 0) : Rep E T w (.ro e) (.slice none 0 0)
  | ro1 (e : EV) (a : Addr) (h : e.len = 0) : Rep E T w (.ro e) (.slice (some a) 0 0)
  | ro (e : EV) (b o n k : Nat) (c : Nat → List Value) (hT : ¬ T b) (hn : ∀ i, i < e.len → (c i).length = e.sz)
      (hc : ∀ i j v, i < e.len → (c i)[j]? = some v → w.cell? ⟨b, o + i * e.sz + j, none⟩ = some v)
      (hr : ∀ i, i < e.len → Items E T w (e.items i) (c i)) (he : n = e.len) (hl : n ≤ k) (ok : okLen k) (hb : b < w.heap.size) :
      Rep E T w (.ro e) (.slice (some ⟨b, o, none⟩) n k)
  | agg (l : List SV) (cs : List Value) (h : Items E T w l cs) : Rep E T w (.agg l) (.agg cs.toArray)
  | arr (n : Nat) (e : EV) (cs : List Value) (c : Nat → List Value) (hn : ∀ i, i < e.len → (c i).length = e.sz) (hl : cs.length = n) (he : e.len * e.sz = n) (h1 : ∀ v ∈ cs, v.oneCell' = true)
      (hc : ∀ i j v, i < e.len → (c i)[j]? = some v → cs[i * e.sz + j]? = some v)
      (hr : ∀ i, i < e.len → Items E T w (e.items i) (c i)) : Rep E T w (.arr n e) (.agg cs.toArray)
  | tup (l : List SV) (vs : List Value) (h : Tup E T w l vs) : Rep E T w (.tup l) (.tuple vs.toArray)
  | fn (f : FuncId) (l : List SV) (vs : List Value) (h : Tup E T w l vs) : Rep E T w (.fn f l) (.func (.func f) #[] vs.toArray)
  | mv (f : FuncId) (l : List SV) (vs : List Value) (h : Tup E T w l vs) : Rep E T w (.mv f l) (.func (.func f) vs.toArray #[])
  | ifc (t : TypeId) (s : SV) (v : Value) (h : Rep E T w s v) : Rep E T w (.ifc t s) (.iface t v)
  | nili : Rep E T w .nili .nilIface
  | nilf : Rep E T w .nilf .nilFunc
  | may1 (g : Prop) (s : SV) (v : Value) (h : g) (hr : Rep E T w s v) : Rep E T w (.may g s) v
  | may0 (g : Prop) (s : SV) (h : ¬ g) : Rep E T w (.may g s) undef
  | bsl (id len b n : Nat) (t : TypeId) (h : E id = some (some b)) (hs : w.shape? b = some (t, n)) (hl : len ≤ n) (ok : okLen n) : Rep E T w (.bsl id len) (.slice (some ⟨b, 0, none⟩) len n)
  | bsl0 (id len : Nat) (h : E id = some none) (hl : len = 0) : Rep E T w (.bsl id len) (.slice none 0 0)
  | anyi (k : IntKind) (n : Int) : Rep E T w (.anyi k) (.int k n)
  | val (x : Value) : Rep E T w (.val x) x
inductive Items (E : Env) (T : Nat → Prop) (w : World) : List SV → List Value → Prop
  | nil : Items E T w [] []
  | one (s : SV) (c : Value) (l : List SV) (cs : List Value) (h : s.one = true) (hr : Rep E T w s c) (hl : Items E T w l cs) : Items E T w (s :: l) (c :: cs)
  | arr (n : Nat) (e : EV) (l : List SV) (c1 cs : List Value) (hr : Rep E T w (.arr n e) (.agg c1.toArray)) (hl : Items E T w l cs) : Items E T w (.arr n e :: l) (c1 ++ cs)
inductive Tup (E : Env) (T : Nat → Prop) (w : World) : List SV → List Value → Prop
  | nil : Tup E T w [] []
  | cons (s : SV) (v : Value) (l : List SV) (vs : List Value) (hr : Rep E T w s v) (hl : Tup E T w l vs) : Tup E T w (s :: l) (v :: vs)
end
structure Chg (T : Nat → Prop) (w w' : World) : Prop where
  size : w.heap.size ≤ w'.heap.size
  keep : ∀ b, b < w.heap.size → ¬ T b → w'.heap[b]? = w.heap[b]?
  shape : ∀ b, b < w.heap.size → w'.shape? b = w.shape? b
theorem shape_lt {w : World} {b : Nat} {x : TypeId × Nat} (h : w.shape? b = some x) : b < w.heap.size := by
  rcases Nat.lt_or_ge b w.heap.size with hlt | hge
  · exact hlt
  · simp [World.shape?, Array.getElem?_eq_none hge] at h
theorem cell_keep {T : Nat → Prop} {w w' : World} (hw : Chg T w w') {a : Addr} {v : Value} (hT : ¬ T a.block) (h : w.cell? a = some v) : w'.cell? a = some v :=
  (World.cell?_of_block (hw.keep a.block (block_lt_of_cell h) hT)).trans h
theorem Chg.refl (T : Nat → Prop) (w : World) : Chg T w w := ⟨Nat.le_refl _, fun _ _ _ => rfl, fun _ _ => rfl⟩
theorem Chg.trans {T : Nat → Prop} {a b c : World} (h : Chg T a b) (k : Chg T b c) : Chg T a c :=
  ⟨Nat.le_trans h.size k.size, fun x hx hT => (k.keep x (Nat.lt_of_lt_of_le hx h.size) hT).trans (h.keep x hx hT), fun x hx => (k.shape x (Nat.lt_of_lt_of_le hx h.size)).trans (h.shape x hx)⟩
theorem Chg.of_below {T : Nat → Prop} {w w' : World} (h : Below w.heap.size w w') : Chg T w w' :=
  ⟨h.size, fun b hb _ => h.block b hb, fun b hb => by simp [World.shape?, h.block b hb]⟩
section
variable {E E' : Env} {T T' : Nat → Prop} {w w' : World}
mutual
theorem Rep.mono (hE : ∀ i b, E i = some b → E' i = some b) (hT : ∀ b, b < w.heap.size → T' b → T b) (hw : Chg T w w') : ∀ {s : SV} {v : Value}, Rep E T w s v → Rep E' T' w' s v
  | _, _, .bool b => .bool b
  | _, _, .int k n h => .int k n h
  | _, _, .str l h => .str l h
  | _, _, .nilp => .nilp
  | _, _, .ptr id off b h => .ptr id off b (hE _ _ h)
  | _, _, .pel id base sz i j b h => .pel id base sz i j b (hE _ _ h)
  | _, _, .rop e i j b o c hT' hn hc hr hi hj hb =>
    .rop e i j b o c (fun h => hT' (hT b hb h)) hn (fun i j v hi hj => cell_keep hw hT' (hc i j v hi hj)) (fun i hi => Items.mono hE hT hw (hr i hi)) hi hj (Nat.lt_of_lt_of_le hb hw.size)
  | _, _, .nils => .nils
  | _, _, .row id base sz sub len b o c n t h hs ho hl ok => .row id base sz sub len b o c n t (hE _ _ h) ((hw.shape b (shape_lt hs)).trans hs) ho hl ok
  | _, _, .row0 id base sz sub len h hl => .row0 id base sz sub len (hE _ _ h) hl
  | _, _, .ro0 e h => .ro0 e h
  | _, _, .ro1 e a h => .ro1 e a h
  | _, _, .ro e b o n k c hT' hn hc hr he hl ok hb =>
    .ro e b o n k c (fun h => hT' (hT b hb h)) hn (fun i j v hi hj => cell_keep hw hT' (hc i j v hi hj)) (fun i hi => Items.mono hE hT hw (hr i hi)) he hl ok (Nat.lt_of_lt_of_le hb hw.size)
  | _, _, .agg l cs h => .agg l cs (Items.mono hE hT hw h)
  | _, _, .arr n e cs c hn hl he h1 hc hr => .arr n e cs c hn hl he h1 hc (fun i hi => Items.mono hE hT hw (hr i hi))
  | _, _, .tup l vs h => .tup l vs (Tup.mono hE hT hw h)
  | _, _, .fn f l vs h => .fn f l vs (Tup.mono hE hT hw h)
  | _, _, .mv f l vs h => .mv f l vs (Tup.mono hE hT hw h)
  | _, _, .ifc t s v h => .ifc t s v (Rep.mono hE hT hw h)
  | _, _, .nili => .nili
  | _, _, .nilf => .nilf
  | _, _, .may1 g s v h hr => .may1 g s v h (Rep.mono hE hT hw hr)
  | _, _, .may0 g s h => .may0 g s h
  | _, _, .bsl id len b n t h hs hl ok => .bsl id len b n t (hE _ _ h) ((hw.shape b (shape_lt hs)).trans hs) hl ok
  | _, _, .bsl0 id len h hl => .bsl0 id len (hE _ _ h) hl
  | _, _, .anyi k n => .anyi k n
  | _, _, .val x => .val x
theorem Items.mono (hE : ∀ i b, E i = some b → E' i = some b) (hT : ∀ b, b < w.heap.size → T' b → T b) (hw : Chg T w w') : ∀ {l : List SV} {cs : List Value}, Items E T w l cs → Items E' T' w' l cs
  | _, _, .nil => .nil
  | _, _, .one s c l cs h hr hl => .one s c l cs h (Rep.mono hE hT hw hr) (Items.mono hE hT hw hl)
  | _, _, .arr n e l c1 cs hr hl => .arr n e l c1 cs (Rep.mono hE hT hw hr) (Items.mono hE hT hw hl)
theorem Tup.mono (hE : ∀ i b, E i = some b → E' i = some b) (hT : ∀ b, b < w.heap.size → T' b → T b) (hw : Chg T w w') : ∀ {l : List SV} {vs : List Value}, Tup E T w l vs → Tup E' T' w' l vs
  | _, _, .nil => .nil
  | _, _, .cons s v l vs hr hl => .cons s v l vs (Rep.mono hE hT hw hr) (Tup.mono hE hT hw hl)
end
end
def unB : SV → SV
  | .bsl id len => .row id 0 1 0 len
  | s => s
theorem Rep.unB {E : Env} {T : Nat → Prop} {w : World} {s : SV} {v : Value} (h : Rep E T w s v) : Rep E T w (unB s) v := by
  cases s <;> first | exact h | skip
  cases h with
  | bsl _ _ b n t h hs hl ok => exact .row _ 0 1 0 _ b 0 n n t h hs (fun _ => ⟨by omega, by omega⟩) hl ok
  | bsl0 _ _ h hl => exact .row0 _ 0 1 0 _ h hl
theorem Rep.up {E : Env} {T : Nat → Prop} {w : World} {s : SV} {v : Value} (h : Rep (fun _ => none) T w s v) : Rep E T w s v := h.mono (fun i b hi => by cases hi) (fun _ _ h => h) (Chg.refl _ w)
theorem Rep.oneCell {E : Env} {T : Nat → Prop} {w : World} {s : SV} {v : Value} (h : Rep E T w s v) (h1 : s.one = true) : v.oneCell' = true := by
  cases h <;> first | rfl | exact h1 | (simp [SV.one] at h1)
theorem Rep.arr_len {E : Env} {T : Nat → Prop} {w : World} {n : Nat} {e : EV} {cs : List Value} (h : Rep E T w (.arr n e) (.agg cs.toArray)) : cs.length = n := by
  generalize hv : Value.agg cs.toArray = v at h
  cases h with
  | arr n e cs' c hn hl he h1 hc hr =>
    simp at hv
    subst hv
    exact hl
theorem Rep.arr_ones {E : Env} {T : Nat → Prop} {w : World} {n : Nat} {e : EV} {cs : List Value} (h : Rep E T w (.arr n e) (.agg cs.toArray)) : ∀ v ∈ cs, v.oneCell' = true := by
  generalize hv : Value.agg cs.toArray = v at h
  cases h with
  | arr n e cs' c hn hl he h1 hc hr =>
    simp at hv
    subst hv
    exact h1
theorem Items.ones {E : Env} {T : Nat → Prop} {w : World} : ∀ {l : List SV} {cs : List Value}, Items E T w l cs → ∀ v ∈ cs, v.oneCell' = true
  | _, _, .nil, v, hv => by cases hv
  | _, _, .one s c l cs h hr hl, v, hv => by
    rcases List.mem_cons.1 hv with rfl | hv
    · exact hr.oneCell h
    · exact Items.ones hl v hv
  | _, _, .arr n e l c1 cs hr hl, v, hv => by
    rcases List.mem_append.1 hv with hv | hv
    · exact hr.arr_ones v hv
    · exact Items.ones hl v hv
def E0 : Env := fun _ => none
mutual
def pureS : SV → Prop
  | .ptr _ _ => False
  | .pel _ _ _ _ _ => False
  | .row _ _ _ _ _ => False
  | .bsl _ _ => False
  | .rop e _ _ => pureE e
  | .ro e => pureE e
  | .agg l => pureL l
  | .arr _ e => pureE e
  | .tup l => pureL l
  | .fn _ l => pureL l
  | .mv _ l => pureL l
  | .ifc _ v => pureS v
  | .may _ v => pureS v
  | _ => True
def pureE : EV → Prop
  | .g n _ f => ∀ i, i < n → pureL (f i)
  | _ => True
def pureL : List SV → Prop
  | [] => True
  | s :: r => pureS s ∧ pureL r
end
theorem pureE.items {e : EV} (h : pureE e) {i : Nat} (hi : i < e.len) : pureL (e.items i) := by
  cases e with
  | u8 l => simp [EV.items, pureL, pureS]
  | ints k l => simp [EV.items, pureL, pureS]
  | g n sz f => simp only [pureE] at h; exact h i hi
section
variable {E E' : Env} {T : Nat → Prop} {w : World}
mutual
theorem Rep.free_ : ∀ {s : SV} {v : Value}, Rep E T w s v → pureS s → Rep E' T w s v
  | _, _, .bool b, _ => .bool b
  | _, _, .int k n h, _ => .int k n h
  | _, _, .str l h, _ => .str l h
  | _, _, .nilp, _ => .nilp
  | _, _, .ptr id off b h, hp => by simp [pureS] at hp
  | _, _, .pel id base sz i j b h, hp => by simp [pureS] at hp
  | _, _, .rop e i j b o c hT' hn hc hr hi hj hb, hp => by
    simp only [pureS] at hp
    exact .rop e i j b o c hT' hn hc (fun i hi => Items.free_ (hr i hi) (hp.items hi)) hi hj hb
  | _, _, .nils, _ => .nils
  | _, _, .row id base sz sub len b o c n t h hs ho hl ok, hp => by simp [pureS] at hp
  | _, _, .row0 id base sz sub len h hl, hp => by simp [pureS] at hp
  | _, _, .ro0 e h, _ => .ro0 e h
  | _, _, .ro1 e a h, _ => .ro1 e a h
  | _, _, .ro e b o n k c hT' hn hc hr he hl ok hb, hp => by
    simp only [pureS] at hp
    exact .ro e b o n k c hT' hn hc (fun i hi => Items.free_ (hr i hi) (hp.items hi)) he hl ok hb
  | _, _, .agg l cs h, hp => .agg l cs (Items.free_ h (by simpa only [pureS] using hp))
  | _, _, .arr n e cs c hn hl he h1 hc hr, hp => by
    simp only [pureS] at hp
    exact .arr n e cs c hn hl he h1 hc (fun i hi => Items.free_ (hr i hi) (hp.items hi))
  | _, _, .tup l vs h, hp => .tup l vs (Tup.free_ h (by simpa only [pureS] using hp))
  | _, _, .fn f l vs h, hp => .fn f l vs (Tup.free_ h (by simpa only [pureS] using hp))
  | _, _, .mv f l vs h, hp => .mv f l vs (Tup.free_ h (by simpa only [pureS] using hp))
  | _, _, .ifc t s v h, hp => .ifc t s v (Rep.free_ h (by simpa only [pureS] using hp))
  | _, _, .nili, _ => .nili
  | _, _, .nilf, _ => .nilf
  | _, _, .may1 g s v h hr, hp => .may1 g s v h (Rep.free_ hr (by simpa only [pureS] using hp))
  | _, _, .may0 g s h, _ => .may0 g s h
  | _, _, .bsl id len b n t h hs hl ok, hp => by simp [pureS] at hp
  | _, _, .bsl0 id len h hl, hp => by simp [pureS] at hp
  | _, _, .anyi k n, _ => .anyi k n
  | _, _, .val x, _ => .val x
theorem Items.free_ : ∀ {l : List SV} {cs : List Value}, Items E T w l cs → pureL l → Items E' T w l cs
  | _, _, .nil, _ => .nil
  | _, _, .one s c l cs h hr hl, hp => by
    simp only [pureL] at hp
    exact .one s c l cs h (Rep.free_ hr hp.1) (Items.free_ hl hp.2)
  | _, _, .arr n e l c1 cs hr hl, hp => by
    simp only [pureL] at hp
    exact .arr n e l c1 cs (Rep.free_ hr hp.1) (Items.free_ hl hp.2)
theorem Tup.free_ : ∀ {l : List SV} {vs : List Value}, Tup E T w l vs → pureL l → Tup E' T w l vs
  | _, _, .nil, _ => .nil
  | _, _, .cons s v l vs hr hl, hp => by
    simp only [pureL] at hp
    exact .cons s v l vs (Rep.free_ hr hp.1) (Tup.free_ hl hp.2)
end
end
def takeI : List SV → Nat → Option (List SV)
  | _, 0 => some []
  | [], _ + 1 => none
  | s :: r, n + 1 => match s with
    | .arr m _ => match Nat.ble m (n + 1) with
      | true => match takeI r (n + 1 - m) with
        | some l => some (s :: l)
        | none => none
      | false => none
    | _ => match takeI r n with
      | some l => some (s :: l)
      | none => none
def dropI : List SV → Nat → Option (List SV)
  | l, 0 => some l
  | [], _ + 1 => none
  | s :: r, n + 1 => match s with
    | .arr m _ => match Nat.ble m (n + 1) with
      | true => dropI r (n + 1 - m)
      | false => none
    | _ => dropI r n
def cutI (l : List SV) (off n : Nat) : Option (List SV) :=
  match dropI l off with
  | some r => takeI r n
  | none => none
def pasteI (l : List SV) (off n : Nat) (x : List SV) : Option (List SV) :=
  match takeI l off with
  | some a => match dropI l (off + n) with
    | some c => some (a ++ x ++ c)
    | none => none
  | none => none
section
variable {E : Env} {T : Nat → Prop} {w : World}
theorem Items.app : ∀ {l m : List SV} {cs ds : List Value}, Items E T w l cs → Items E T w m ds → Items E T w (l ++ m) (cs ++ ds)
  | _, _, _, _, .nil, h => h
  | _, _, _, _, .one s c l cs h1 hr hl, h => .one s c _ _ h1 hr (Items.app hl h)
  | _, _, _, _, .arr n e l c1 cs hr hl, h => by
    rw [List.append_assoc]
    exact .arr n e _ c1 _ hr (Items.app hl h)
theorem Items.take_ : ∀ {l r : List SV} {cs : List Value} {n : Nat}, Items E T w l cs → takeI l n = some r → n ≤ cs.length ∧ Items E T w r (cs.take n)
  | l, r, cs, 0, h, ht => by
    have : r = [] := by cases l <;> simpa [takeI] using ht.symm
    subst this
    simpa using Items.nil
  | _, r, _, n + 1, .nil, ht => by simp [takeI] at ht
  | _, r, _, n + 1, .one s c l cs h1 hr hl, ht => by
    have ht' : (match takeI l n with | some l => some (s :: l) | none => none) = some r := by
      cases s <;> first | exact ht | (simp [SV.one] at h1)
    split at ht'
    · rename_i l' hl'
      simp at ht'
      subst ht'
      obtain ⟨a, b⟩ := Items.take_ hl hl'
      exact ⟨by simpa using a, by simpa using Items.one s c _ _ h1 hr b⟩
    · cases ht'
  | _, r, _, n + 1, .arr m e l c1 cs hr hl, ht => by
    simp only [takeI] at ht
    split at ht
    · rename_i hle
      have hle' := Nat.le_of_ble_eq_true hle
      split at ht
      · rename_i l' hl'
        simp at ht
        subst ht
        obtain ⟨a, b⟩ := Items.take_ hl hl'
        have hm := hr.arr_len
        refine ⟨by simp; omega, ?_⟩
        rw [List.take_append, List.take_of_length_le (by omega), hm]
        exact .arr m e _ c1 _ hr b
      · cases ht
    · cases ht
theorem Items.drop_ : ∀ {l r : List SV} {cs : List Value} {n : Nat}, Items E T w l cs → dropI l n = some r → n ≤ cs.length ∧ Items E T w r (cs.drop n)
  | l, r, cs, 0, h, ht => by
    have : r = l := by cases l <;> simpa [dropI] using ht.symm
    subst this
    simpa using h
  | _, r, _, n + 1, .nil, ht => by simp [dropI] at ht
  | _, r, _, n + 1, .one s c l cs h1 hr hl, ht => by
    have ht' : dropI l n = some r := by
      cases s <;> first | exact ht | (simp [SV.one] at h1)
    obtain ⟨a, b⟩ := Items.drop_ hl ht'
    exact ⟨by simpa using a, by simpa using b⟩
  | _, r, _, n + 1, .arr m e l c1 cs hr hl, ht => by
    simp only [dropI] at ht
    split at ht
    · rename_i hle
      have hle' := Nat.le_of_ble_eq_true hle
      obtain ⟨a, b⟩ := Items.drop_ hl ht
      have hm := hr.arr_len
      refine ⟨by simp; omega, ?_⟩
      rw [List.drop_append, List.drop_of_length_le (by omega), hm]
      simpa using b
    · cases ht
theorem Items.cut {l r : List SV} {cs : List Value} {off n : Nat} (h : Items E T w l cs) (hc : cutI l off n = some r) : off + n ≤ cs.length ∧ Items E T w r ((cs.drop off).take n) := by
  unfold cutI at hc
  split at hc
  · rename_i r' hr'
    obtain ⟨a, b⟩ := h.drop_ hr'
    obtain ⟨c, d⟩ := b.take_ hc
    exact ⟨by simp at c; omega, d⟩
  · cases hc
theorem Items.paste {l x r : List SV} {cs xs : List Value} {off n : Nat} (h : Items E T w l cs) (hx : Items E T w x xs) (hp : pasteI l off n x = some r) :
    off + n ≤ cs.length ∧ Items E T w r (cs.take off ++ xs ++ cs.drop (off + n)) := by
  unfold pasteI at hp
  split at hp
  · rename_i a ha
    split at hp
    · rename_i c hc
      simp at hp
      subst hp
      obtain ⟨h1, h2⟩ := h.take_ ha
      obtain ⟨h3, h4⟩ := h.drop_ hc
      refine ⟨h3, ?_⟩
      have := h2.app (hx.app h4)
      simpa using this
    · cases hp
  · cases hp
def itemsOf : SV → Option (List SV)
  | .agg l => some l
  | .arr n e => some [.arr n e]
  | .tup _ | .may _ _ | .val _ => none
  | s => some [s]
theorem Rep.items {s : SV} {v : Value} {l : List SV} (h : Rep E T w s v) (hi : itemsOf s = some l) : Items E T w l v.cells.toList := by
  cases h <;> simp [itemsOf] at hi <;> subst hi
  case agg l cs h => simpa [Value.cells] using h
  case arr n e cs c hn hl he h1 hc hr =>
    have := Items.arr (E := E) (T := T) (w := w) n e [] cs [] (.arr n e cs c hn hl he h1 hc hr) .nil
    simpa [Value.cells] using this
  all_goals exact .one _ _ _ _ rfl (by constructor <;> assumption) .nil
def ofItems : Bool → List SV → Option SV
  | true, [.arr n e] => some (.arr n e)
  | true, l => some (.agg l)
  | false, [s] => match s with
    | .arr _ _ => none
    | s => some s
  | false, _ => none
end
end Go.Proofs.YtpbgihhfcdggkaaGreatDoor.V
end
section
namespace Go.Proofs.YtpbgihhfcdggkaaGreatDoor.V
open Go.RowKit
inductive Tr where
  | e
  | n (l : Tr) (x : Option SV) (r : Tr)
def Tr.mk : Nat → Tr
  | 0 => .e
  | d + 1 => .n (Tr.mk d) none (Tr.mk d)
def Tr.get : Tr → Nat → Option SV
  | .e, _ => none
  | .n l x r, k => match k with
    | 0 => x
    | k + 1 => match Nat.beq (Nat.mod k 2) 0 with
      | true => l.get (Nat.div k 2)
      | false => r.get (Nat.div k 2)
def Tr.put : Tr → Nat → Option SV → Option Tr
  | .e, _, _ => none
  | .n l x r, k, v => match k with
    | 0 => some (.n l v r)
    | k + 1 => match Nat.beq (Nat.mod k 2) 0 with
      | true => match l.put (Nat.div k 2) v with
        | some l' => some (.n l' x r)
        | none => none
      | false => match r.put (Nat.div k 2) v with
        | some r' => some (.n l x r')
        | none => none
def Tr.putK {α : Type} : Tr → Nat → Option SV → (Tr → Option α) → Option α
  | .e, _, _, _ => none
  | .n l x r, k, v, K => match k with
    | 0 => K (.n l v r)
    | k + 1 => match Nat.beq (Nat.mod k 2) 0 with
      | true => l.putK (Nat.div k 2) v fun l' => K (.n l' x r)
      | false => r.putK (Nat.div k 2) v fun r' => K (.n l x r')
theorem Tr.putK_eq {α : Type} : ∀ (F : Tr) (k : Nat) (v : Option SV) (K : Tr → Option α) (r : α), F.putK k v K = some r → ∃ F', F.put k v = some F' ∧ K F' = some r
  | .e, k, v, K, r, h => by simp [Tr.putK] at h
  | .n l x r, 0, v, K, z, h => ⟨_, rfl, h⟩
  | .n l x r, k + 1, v, K, z, h => by
    simp only [Tr.putK] at h
    simp only [Tr.put]
    split at h
    · rename_i hb
      obtain ⟨l', h1, h2⟩ := Tr.putK_eq l _ v _ z h
      exact ⟨.n l' x r, by simp only [h1], h2⟩
    · rename_i hb
      obtain ⟨r', h1, h2⟩ := Tr.putK_eq r _ v _ z h
      exact ⟨.n l x r', by simp only [h1], h2⟩
theorem par_t {k : Nat} (h : Nat.beq (Nat.mod k 2) 0 = true) : k % 2 = 0 := Nat.eq_of_beq_eq_true h
theorem par_f {k : Nat} (h : Nat.beq (Nat.mod k 2) 0 = false) : k % 2 ≠ 0 := Nat.ne_of_beq_eq_false h
theorem Tr.get_put : ∀ (F F' : Tr) (k : Nat) (v : Option SV), F.put k v = some F' → ∀ t, F'.get t = if t = k then v else F.get t
  | .e, F', k, v, h, t => by simp [Tr.put] at h
  | .n l x r, F', 0, v, h, t => by
    simp [Tr.put] at h
    subst h
    cases t <;> simp [Tr.get]
  | .n l x r, F', k + 1, v, h, t => by
    simp only [Tr.put] at h
    cases hb : Nat.beq (Nat.mod k 2) 0 with
    | true =>
      simp only [hb] at h
      split at h
      · rename_i l' hl
        simp at h
        subst h
        have ih := Tr.get_put l l' _ v hl
        cases t with
        | zero => simp [Tr.get]
        | succ t =>
          simp only [Tr.get]
          have hk := par_t hb
          cases ht : Nat.beq (Nat.mod t 2) 0 with
          | true =>
            simp only [ih]
            have h2 := par_t ht
            have : (Nat.div t 2 = Nat.div k 2) ↔ (t + 1 = k + 1) := by
              show t / 2 = k / 2 ↔ _
              omega
            simp only [this]
          | false =>
            have h2 := par_f ht
            have : ¬ (t + 1 = k + 1) := by omega
            simp only [if_neg this]
      · cases h
    | false =>
      simp only [hb] at h
      split at h
      · rename_i r' hr
        simp at h
        subst h
        have ih := Tr.get_put r r' _ v hr
        cases t with
        | zero => simp [Tr.get]
        | succ t =>
          simp only [Tr.get]
          have hk := par_f hb
          cases ht : Nat.beq (Nat.mod t 2) 0 with
          | false =>
            simp only [ih]
            have h2 := par_f ht
            have : (Nat.div t 2 = Nat.div k 2) ↔ (t + 1 = k + 1) := by
              show t / 2 = k / 2 ↔ _
              omega
            simp only [this]
          | true =>
            have h2 := par_t ht
            have : ¬ (t + 1 = k + 1) := by omega
            simp only [if_neg this]
      · cases h
inductive Blk where
  | cells (t : TypeId) (l : List SV)
  | row (t : TypeId) (e : EV)
  | obj (o : Obj)
abbrev Mem := List (Nat × Blk)
def find : Mem → Nat → Option Blk
  | [], _ => none
  | (i, B) :: r, k => match Nat.beq i k with
    | true => some B
    | false => find r k
def upd : Mem → Nat → Blk → Option Mem
  | [], _, _ => none
  | (i, B) :: r, k, B' => match Nat.beq i k with
    | true => some ((i, B') :: r)
    | false => match upd r k B' with
      | some r' => some ((i, B) :: r')
      | none => none
def del : Mem → Nat → Mem
  | [], _ => []
  | (i, B) :: r, k => match Nat.beq i k with
    | true => del r k
    | false => (i, B) :: del r k
theorem find_cons (i k : Nat) (B : Blk) (M : Mem) : find ((i, B) :: M) k = if k = i then some B else find M k := by
  simp only [find]
  split
  · rename_i h; have := Nat.eq_of_beq_eq_true h; simp [this]
  · rename_i h; have : ¬ k = i := by simpa using fun e => (by subst e; simp at h)
    simp [this]
theorem find_upd : ∀ {M M' : Mem} {id : Nat} {B : Blk}, upd M id B = some M' → ∀ k, find M' k = if k = id then some B else find M k
  | [], M', id, B, h, k => by simp [upd] at h
  | (i, B0) :: r, M', id, B, h, k => by
    simp only [upd] at h
    split at h
    · rename_i hb
      have := Nat.eq_of_beq_eq_true hb
      subst this
      simp at h
      subst h
      simp only [find_cons]
      split <;> rfl
    · rename_i hb
      have hne : ¬ i = id := by simpa using fun e => (by subst e; simp at hb)
      split at h
      · rename_i r' hr
        simp at h
        subst h
        simp only [find_cons, find_upd hr]
        split
        · rename_i h1; subst h1; simp [hne]
        · rfl
      · cases h
theorem find_del : ∀ (M : Mem) (id k : Nat), find (del M id) k = if k = id then none else find M k
  | [], id, k => by simp [del, find]
  | (i, B0) :: r, id, k => by
    simp only [del]
    split
    · rename_i hb
      have := Nat.eq_of_beq_eq_true hb
      subst this
      rw [find_del r, find_cons]
      split <;> rfl
    · rename_i hb
      have hne : ¬ i = id := by simpa using fun e => (by subst e; simp at hb)
      simp only [find_cons, find_del r]
      split
      · rename_i h1; subst h1; simp [hne]
      · rfl
abbrev Glob := List (Nat × EV)
def gl : Glob → Nat → Option EV
  | [], _ => none
  | (i, e) :: r, k => match Nat.beq i k with
    | true => some e
    | false => gl r k
structure Hold where
  pe : Env
  G : Tr
  val : Nat → Value
  ds : List Deferred
structure Ctx where
  P : Program
  W0 : World
  S : Nat → Prop
  T0 : Nat → Prop
  Γ : Glob
  N : Nat
  pins : List Nat
  hold : List Hold
  wide : Bool
def Ctx.D (C : Ctx) : List Deferred := match C.hold with
  | [] => []
  | p :: _ => p.ds
def mine (M : Mem) (E : Env) (b : Nat) : Prop := ∃ id B, find M id = some B ∧ E id = some (some b)
def trk (T0 : Nat → Prop) (M : Mem) (E : Env) (b : Nat) : Prop := mine M E b ∨ T0 b
def BOk (E : Env) (T : Nat → Prop) (w : World) (b : Nat) : Blk → Prop
  | .cells t l => ∃ cs : List Value, w.heap[b]? = some (.cells cs.toArray t (0, 0)) ∧ Items E T w l cs
  | .row t e => ∃ (cs : List Value) (c : Nat → List Value), w.heap[b]? = some (.cells cs.toArray t (0, 0)) ∧ e.len * e.sz ≤ cs.length ∧ (∀ i, i < e.len → (c i).length = e.sz) ∧
      (∀ i j v, i < e.len → (c i)[j]? = some v → cs[i * e.sz + j]? = some v) ∧ (∀ i, i < e.len → Items E T w (e.items i) (c i))
  | .obj o => w.heap[b]? = some o
structure Kp (W0 : World) (S : Nat → Prop) (w : World) : Prop where
  os : w.os = W0.os
  tape : w.tape = W0.tape
  output : w.output = W0.output
  chg : Chg S W0 w
structure MOk (E : Env) (T : Nat → Prop) (M : Mem) (w : World) : Prop where
  blk : ∀ id B, find M id = some B → (∃ b, E id = some (some b) ∧ b < w.heap.size ∧ BOk E T w b B) ∨ (E id = some none ∧ ∃ t e, B = .row t e ∧ e.len = 0)
  inj : ∀ id id' b, (find M id).isSome = true → (find M id').isSome = true → E id = some (some b) → E id' = some (some b) → id = id'
theorem MOk.at {E : Env} {T : Nat → Prop} {M : Mem} {w : World} (H : MOk E T M w) {id b : Nat} {B : Blk} (hf : find M id = some B) (hE : E id = some (some b)) : b < w.heap.size ∧ BOk E T w b B := by
  rcases H.blk id B hf with ⟨b', h1, h2, h3⟩ | ⟨h1, _⟩
  · rw [hE] at h1
    cases h1
    exact ⟨h2, h3⟩
  · rw [hE] at h1
    cases h1
structure GOk (Γ : Glob) (T : Nat → Prop) (w : World) : Prop where
  rep : ∀ g e, gl Γ g = some e → Rep E0 T w (.rop e 0 0) (.pointer (some ⟨g, 0, none⟩))
  shp : ∀ g e, gl Γ g = some e → ∃ t, w.shape? g = some (t, e.len * e.sz)
theorem GOk.mono {Γ : Glob} {T T' : Nat → Prop} {w w' : World} (h : GOk Γ T w) (hT : ∀ b, b < w.heap.size → T' b → T b) (hw : Chg T w w') : GOk Γ T' w' :=
  ⟨fun g e hg => (h.rep g e hg).mono (fun _ _ h => h) hT hw, fun g e hg => by
    obtain ⟨t, ht⟩ := h.shp g e hg
    exact ⟨t, (hw.shape g (shape_lt ht)).trans ht⟩⟩
def rest (U : Nat → Prop) (i k : Nat) : Prop := U k ∧ k ≠ i
structure St (C : Ctx) (F : Tr) (M : Mem) (U : Nat → Prop) (E : Env) (a : Act) (w : World) : Prop where
  defers : a.defers = C.D
  size : a.tmps.size = C.N
  slots : ∀ t s, F.get t = some s → Rep E (trk C.T0 M E) w s (a.tmps.getD t undef)
  mem : MOk E (trk C.T0 M E) M w
  own : ∀ id b, (find M id).isSome = true → E id = some (some b) → C.W0.heap.size ≤ b ∨ C.S b
  fresh : ∀ k, U k → E k = none
  kp : Kp C.W0 C.S w
  hid : ∀ b, C.T0 b → (b < C.W0.heap.size ∧ ¬ C.S b) ∨ C.wide = true
  glob : GOk C.Γ (trk C.T0 M E) w
  pin : ∀ p, p ∈ C.hold → ∀ id b, p.pe id = some b → C.pins.elem id = true ∧ E id = some b
  held : ∀ p, p ∈ C.hold → ∀ t s, p.G.get t = some s → Rep p.pe (trk C.T0 M E) w s (p.val t)
def isAggD : Option TypeDesc → Option Bool
  | some (.struct _) => some true
  | some (.array _ _) => some true
  | some _ => some false
  | none => none
def sizeF (P : Program) (t : TypeId) : Option Nat :=
  match P.info? t with
  | some i => some i.size
  | none => none
def offF (P : Program) (s f : Nat) : Option Nat :=
  match P.underlying s with
  | some (.struct fs) => match fs.toList[f]? with
    | some ⟨_, t, off, _, _, _, _⟩ => match sizeF P t with
      | some (_ + 1) => some off
      | _ => none
    | none => none
  | _ => none
def kindB : IntKind → IntKind → Bool
  | .i8, .i8 | .i16, .i16 | .i32, .i32 | .i64, .i64 | .u8, .u8 | .u16, .u16 | .u32, .u32 | .u64, .u64 => true
  | _, _ => false
theorem kindB_eq {a b : IntKind} (h : kindB a b = true) : a = b := by cases a <;> cases b <;> first | rfl | simp [kindB] at h
def wider : IntKind → IntKind → Bool
  | .u8, .u8 | .u8, .u16 | .u8, .u32 | .u8, .u64 | .u8, .i16 | .u8, .i32 | .u8, .i64 => true
  | .u16, .u16 | .u16, .u32 | .u16, .u64 | .u16, .i32 | .u16, .i64 => true
  | .u32, .u32 | .u32, .u64 | .u32, .i64 => true
  | .u64, .u64 => true
  | .i8, .i8 | .i8, .i16 | .i8, .i32 | .i8, .i64 => true
  | .i16, .i16 | .i16, .i32 | .i16, .i64 => true
  | .i32, .i32 | .i32, .i64 => true
  | .i64, .i64 => true
  | _, _ => false
def smallB (k : IntKind) : Int → Bool
  | .ofNat n => match Nat.ble n 127 with
    | true => true
    | false => decide (k.min ≤ (n : Int)) && decide ((n : Int) ≤ k.max)
  | .negSucc n => decide (k.min ≤ Int.negSucc n) && decide (Int.negSucc n ≤ k.max)
def ofC : Value → Option SV
  | .int k n => match smallB k n with
    | true => some (.int k n)
    | false => none
  | .bool b => some (.bool b)
  | .string ⟨⟨l⟩⟩ => match Nat.ble l.length 9223372036854775807 with
    | true => some (.str l)
    | false => none
  | .pointer none => some .nilp
  | .slice none 0 0 => some .nils
  | .nilFunc => some .nilf
  | .nilIface => some .nili
  | .func (.func f) ⟨[]⟩ ⟨[]⟩ => some (.fn f [])
  | _ => none
def ofCs : List Value → Option (List SV)
  | [] => some []
  | v :: r => match ofC v with
    | some s => match ofCs r with
      | some l => some (s :: l)
      | none => none
    | none => none
def ofV : Value → Option SV
  | .agg ⟨l⟩ => match ofCs l with
    | some s => some (.agg s)
    | none => none
  | v => ofC v
def opd (Γ : Glob) (F : Tr) : Operand → Option SV
  | .tmp t => F.get t
  | .const v => ofV v
  | .global g => match gl Γ g with
    | some e => some (.rop e 0 0)
    | none => none
  | .func f => some (.fn f [])
abbrev R := Option (List Prop × SV)
def op1 (Γ : Glob) (F : Tr) (x : Operand) (k : SV → R) : R :=
  match opd Γ F x with
  | some s => match s with
    | .may g s' => match k s' with
      | some (φ, v) => some (g :: φ, v)
      | none => none
    | s => k s
  | none => none
def opds (Γ : Glob) (F : Tr) : List Operand → Option (List SV)
  | [] => some []
  | x :: r => match opd Γ F x with
    | some s => match s with
      | .may _ _ => none
      | s => match opds Γ F r with
        | some l => some (s :: l)
        | none => none
    | none => none
def condOf : SV → List Prop
  | .may g _ => [g]
  | _ => []
def core : SV → SV
  | .may _ s => s
  | s => s
def pickV (cb : Bool) (a b : SV) : R :=
  let φ := (condOf a).map (cb = true → ·) ++ (condOf b).map (cb = false → ·)
  match core a, core b with
  | .bool x, .bool y => some (φ, .bool (cond cb x y))
  | .int k x, .int k' y => match kindB k k' with
    | true => some (φ, .int k (cond cb x y))
    | false => none
  | .str x, .str y => some (φ, .str (cond cb x y))
  | _, _ => none
def seeI (P : Program) (t : TypeId) (l : List SV) (off : Nat) : Option SV :=
  match isAggD (P.underlying t) with
  | some b => match sizeF P t with
    | some n => match cutI l off n with
      | some r => ofItems b r
      | none => none
    | none => none
  | none => none
def withφ (φ : List Prop) : Option SV → R
  | some s => some (φ, s)
  | none => none
def runAt (M : Mem) (id base : Nat) : Option EV :=
  match find M id with
  | some (.row _ e) => match Nat.beq base 0 with
    | true => some e
    | false => none
  | some (.cells _ l) => match dropI l base with
    | some (.arr _ e :: _) => some e
    | _ => none
  | _ => none
def loadV (P : Program) (M : Mem) (t : TypeId) : SV → R
  | .ptr id off => match find M id with
    | some (.cells _ l) => withφ [] (seeI P t l off)
    | _ => none
  | .pel id base sz i j => match runAt M id base with
    | some e => match Nat.beq e.sz sz with
      | true => withφ [i < e.len] (seeI P t (e.items i) j)
      | false => none
    | none => none
  | .rop e i j => withφ [] (seeI P t (e.items i) j)
  | _ => none
def fieldAddrV (o : Nat) : SV → R
  | .ptr id off => some ([], .ptr id (off + o))
  | .pel id base sz i j => some ([], .pel id base sz i (j + o))
  | .rop e i j => match Nat.blt (j + o) e.sz with
    | true => some ([], .rop e i (j + o))
    | false => none
  | _ => none
def indexAddrV (P : Program) (M : Mem) (t : TypeId) (n : Int) (p : SV) : R :=
  match P.underlying t with
  | some (.slice elem) => match sizeF P elem with
    | some (s + 1) => match p with
      | .ro e => match Nat.beq e.sz (s + 1) with
        | true => some ([0 ≤ n ∧ n < (e.len : Int)], .rop e n.toNat 0)
        | false => none
      | .row id base sz sub len => match Nat.beq sz (s + 1) with
        | true => some ([0 ≤ n ∧ n < (len : Int)], .pel id base sz (sub + n.toNat) 0)
        | false => none
      | _ => none
    | _ => none
  | some (.array m elem) => match sizeF P elem with
    | some (s + 1) => match p with
      | .ptr id off => match runAt M id off with
        | some e => match Nat.beq e.sz (s + 1) with
          | true => some ([0 ≤ n ∧ n < (m : Int)], .pel id off e.sz n.toNat 0)
          | false => none
        | none => match find M id with
          | some _ => some ([0 ≤ n ∧ n < (m : Int)], .ptr id (off + n.toNat * (s + 1)))
          | none => none
      | .rop e i j => match Nat.beq e.sz (s + 1) with
        | true => match Nat.beq i 0 && Nat.beq j 0 with
          | true => some ([0 ≤ n ∧ n < (m : Int), m = e.len], .rop e n.toNat 0)
          | false => none
        | false => match Nat.blt (j + n.toNat * (s + 1)) e.sz with
          | true => some ([0 ≤ n ∧ n < (m : Int)], .rop e i (j + n.toNat * (s + 1)))
          | false => none
      | _ => none
    | _ => none
  | _ => none
def indexV (P : Program) (t : TypeId) (n : Int) (x : SV) : R :=
  match x with
  | .str l => match P.underlying t with
    | some .string => some ([0 ≤ n ∧ n < (l.length : Int)], .int .u8 ((l.getD n.toNat 0).toNat : Int))
    | _ => none
  | .arr _ e => match P.underlying t with
    | some (.array m elem) => match sizeF P elem with
      | some s => match Nat.beq e.sz s with
        | true => withφ [0 ≤ n ∧ n < (m : Int), m = e.len] (seeI P elem (e.items n.toNat) 0)
        | false => none
      | none => none
    | _ => none
  | .agg l => match P.underlying t with
    | some (.array m elem) => match sizeF P elem with
      | some s => withφ [0 ≤ n ∧ n < (m : Int)] (seeI P elem l (n.toNat * s))
      | none => none
    | _ => none
  | _ => none
def fieldV (P : Program) (t : TypeId) (f : Nat) (x : SV) : R :=
  match P.underlying t with
  | some (.struct fs) => match fs.toList[f]? with
    | some ⟨_, ft, off, _, _, _, _⟩ => match x with
      | .agg l => withφ [] (seeI P ft l off)
      | _ => none
    | none => none
  | _ => none
def bitV (k : IntKind) (op : BinOp) (a b : Int) : Option Int :=
  match op with
  | .and => some (k.wrap (BitVec.ofInt k.bits a &&& BitVec.ofInt k.bits b).toNat)
  | .or => some (k.wrap (BitVec.ofInt k.bits a ||| BitVec.ofInt k.bits b).toNat)
  | .xor => some (k.wrap (BitVec.ofInt k.bits a ^^^ BitVec.ofInt k.bits b).toNat)
  | .andNot => some (k.wrap (BitVec.ofInt k.bits a &&& ~~~ BitVec.ofInt k.bits b).toNat)
  | _ => none
def intV (X : IntKind → Bool) (op : BinOp) (k : IntKind) (a b : Int) : R :=
  match op with
  | .add => match X k with
    | true => some ([inR k (a + b)], .int k (a + b))
    | false => some ([], .int k (k.wrap (a + b)))
  | .sub => match X k with
    | true => some ([inR k (a - b)], .int k (a - b))
    | false => some ([], .int k (k.wrap (a - b)))
  | .mul => match X k with
    | true => some ([inR k (a * b)], .int k (a * b))
    | false => some ([], .int k (k.wrap (a * b)))
  | .quo => match X k with
    | true => some ([0 ≤ a ∧ 0 < b], .int k (a / b))
    | false => some ([b ≠ 0], .int k (k.wrap (a.tdiv b)))
  | .rem => match X k with
    | true => some ([0 ≤ a ∧ 0 < b], .int k (a % b))
    | false => some ([b ≠ 0], .int k (a.tmod b))
  | .eql => some ([], .bool (decide (a = b)))
  | .neq => some ([], .bool (decide (a ≠ b)))
  | .lss => some ([], .bool (decide (a < b)))
  | .leq => some ([], .bool (decide (a ≤ b)))
  | .gtr => some ([], .bool (decide (b < a)))
  | .geq => some ([], .bool (decide (b ≤ a)))
  | .shl | .shr => none
  | op => match bitV k op a b with
    | some n => some ([], .int k n)
    | none => none
def shiftV (X : IntKind → Bool) (op : BinOp) (k : IntKind) (a b : Int) : R :=
  match op with
  | .shl => match X k with
    | true => some ([0 ≤ b ∧ b < (k.bits : Int) ∧ inR k (a * 2 ^ b.toNat)], .int k (a * 2 ^ b.toNat))
    | false => some ([0 ≤ b], .int k (k.wrap (a * 2 ^ min b.toNat k.bits)))
  | .shr => match X k with
    | true => some ([0 ≤ b ∧ b < (k.bits : Int)], .int k (a / 2 ^ b.toNat))
    | false => some ([0 ≤ b], .int k (a.fdiv (2 ^ min b.toNat k.bits)))
  | _ => none
def strV (op : BinOp) (a b : List UInt8) : R :=
  match op with
  | .add => some ([okLen (a.length + b.length)], .str (a ++ b))
  | .eql => some ([], .bool (decide (a = b)))
  | .neq => some ([], .bool (decide (a ≠ b)))
  | .lss => some ([], .bool (Op.bytesLess a b))
  | .leq => some ([], .bool (Op.bytesLess a b || decide (a = b)))
  | .gtr => some ([], .bool (!(Op.bytesLess a b || decide (a = b))))
  | .geq => some ([], .bool (!(Op.bytesLess a b)))
  | _ => none
def eqOk (P : Program) (t : TypeId) : Bool := !(P.eqGuardType P.depth t) && !(P.stoodInHeld t)
abbrev Q2 := Option (List Prop × Bool)
def eqFs (P : Program) (q : TypeId → List SV → List SV → Q2) : List Field → Nat → List SV → List SV → Q2
  | [], _, _, _ => some ([], true)
  | ⟨nm, t, off, _, _, _, _⟩ :: fs, n, xl, yl =>
    match Nat.beq off n && nm != "_" with
    | true => match sizeF P t with
      | some s => match takeI xl s with
        | some xa => match takeI yl s with
          | some ya => match dropI xl s with
            | some xb => match dropI yl s with
              | some yb => match q t xa ya with
                | some (φ, a) => match eqFs P q fs (n + s) xb yb with
                  | some (ψ, b) => some (φ ++ ψ, a && b)
                  | none => none
                | none => none
              | none => none
            | none => none
          | none => none
        | none => none
      | none => none
    | false => none
def eqEs (q : List SV → List SV → Q2) (s : Nat) : Nat → List SV → List SV → Q2
  | 0, _, _ => some ([], true)
  | n + 1, xl, yl => match takeI xl s with
    | some xa => match takeI yl s with
      | some ya => match dropI xl s with
        | some xb => match dropI yl s with
          | some yb => match q xa ya with
            | some (φ, a) => match eqEs q s n xb yb with
              | some (ψ, b) => some (φ ++ ψ, a && b)
              | none => none
            | none => none
          | none => none
        | none => none
      | none => none
    | none => none
def eqT (P : Program) : Nat → TypeId → List SV → List SV → Q2
  | 0, _, _, _ => none
  | d + 1, t, xl, yl => match P.underlying t with
    | some (.int _) => match xl, yl with
      | [.int k a], [.int k' b] => match kindB k k' with
        | true => some ([], decide (a = b))
        | false => none
      | _, _ => none
    | some .bool => match xl, yl with
      | [.bool a], [.bool b] => some ([], a == b)
      | _, _ => none
    | some .string => match xl, yl with
      | [.str a], [.str b] => some ([], decide (a = b))
      | _, _ => none
    | some (.struct fs) => match eqFs P (eqT P d) fs.toList 0 xl yl with
      | some (φ, b) => some ((eqOk P t = true) :: φ, b)
      | none => none
    | some (.array n e) => match sizeF P e with
      | some s => match xl, yl with
        | [.arr m (.u8 a)], [.arr m' (.u8 b)] => match P.underlying e with
          | some (.int _) => match Nat.beq m n && Nat.beq m' n && Nat.beq s 1 with
            | true => some ([], decide (a = b))
            | false => none
          | _ => none
        | [.arr m (.ints k a)], [.arr m' (.ints k' b)] => match P.underlying e with
          | some (.int _) => match Nat.beq m n && Nat.beq m' n && Nat.beq s 1 && kindB k k' with
            | true => some ([], decide (a = b))
            | false => none
          | _ => none
        | _, _ => eqEs (eqT P d e) s n xl yl
      | none => none
    | _ => none
def aggV (P : Program) (op : BinOp) (t : TypeId) (a b : List SV) : R :=
  match isAggD (P.underlying t) with
  | some true => match eqT P 20 t a b with
    | some (φ, r) => match op with
      | .eql => some ((eqOk P t = true) :: φ, .bool r)
      | .neq => some ((eqOk P t = true) :: φ, .bool (!r))
      | _ => none
    | none => none
  | _ => none
def boolV (op : BinOp) (a b : Bool) : R :=
  match op with
  | .eql => some ([], .bool (a == b))
  | .neq => some ([], .bool (a != b))
  | _ => none
def isShift : BinOp → Bool
  | .shl | .shr => true
  | _ => false
def nilB : Option TypeDesc → SV → SV → Option Bool
  | some (.func _ _ _), x, y => match x, y with
    | .fn _ _, .nilf => some false
    | .nilf, .fn _ _ => some false
    | .mv _ _, .nilf => some false
    | .nilf, .mv _ _ => some false
    | .nilf, .nilf => some true
    | _, _ => none
  | some (.pointer _), x, y => match x, y with
    | .ptr _ _, .nilp => some false
    | .pel _ _ _ _ _, .nilp => some false
    | .rop _ _ _, .nilp => some false
    | .nilp, .nilp => some true
    | _, _ => none
  | some (.interface _), x, y => match x, y with
    | .ifc _ _, .nili => some false
    | _, _ => none
  | some (.slice _), x, y => match x, y with
    | .nils, .nils => some true
    | _, _ => none
  | _, _, _ => none
def nilV (P : Program) (op : BinOp) (t : TypeId) (x y : SV) : R :=
  match nilB (P.underlying t) x y with
  | some b => match op with
    | .eql => some ([], .bool b)
    | .neq => some ([], .bool (!b))
    | _ => none
  | none => none
def binV (X : IntKind → Bool) (P : Program) (op : BinOp) (t : TypeId) (x y : SV) : R :=
  match x, y with
  | .int k a, .int k' b => match isShift op with
    | true => shiftV X op k a b
    | false => match kindB k k' with
      | true => intV X op k a b
      | false => none
  | .str a, .str b => strV op a b
  | .bool a, .bool b => match P.underlying t with
    | some .bool => boolV op a b
    | _ => none
  | .agg a, .agg b => aggV P op t a b
  | .arr n e, .arr n' e' => aggV P op t [.arr n e] [.arr n' e']
  | .agg a, .arr n' e' => aggV P op t a [.arr n' e']
  | .arr n e, .agg b => aggV P op t [.arr n e] b
  | x, y => nilV P op t x y
def unV (X : IntKind → Bool) (op : UnOp) (x : SV) : R :=
  match op, x with
  | .not, .bool b => some ([], .bool (!b))
  | .neg, .int k n => match X k with
    | true => some ([inR k (0 - n)], .int k (0 - n))
    | false => some ([], .int k (k.wrap (0 - n)))
  | .xor, .int k n => some ([], .int k (k.wrap (BitVec.ofInt k.bits (if k.signed then -1 else k.max) ^^^ BitVec.ofInt k.bits n).toNat))
  | _, _ => none
def EV.sub : EV → Nat → Nat → EV
  | .u8 l, a, n => .u8 ((l.drop a).take n)
  | .ints k l, a, n => .ints k ((l.drop a).take n)
  | .g _ sz f, a, n => .g n sz (fun i => f (a + i))
def convV (X : IntKind → Bool) (P : Program) (M : Mem) (s d : TypeId) (x : SV) : R :=
  match x with
  | .int k n => match P.underlying s, P.underlying d with
    | some _, some (.int k') => match wider k k' with
      | true => some ([], .int k' n)
      | false => match X k' with
        | true => some ([inR k' n], .int k' n)
        | false => some ([], .int k' (k'.wrap n))
    | _, _ => none
  | .str l => match P.underlying s, P.underlying d with
    | some _, some .string => some ([], .str l)
    | _, _ => none
  | .ro (.u8 l) => match P.underlying s, P.underlying d with
    | some (.slice e), some .string => match P.underlying e with
      | some (.int .u8) => some ([], .str l)
      | _ => none
    | _, _ => none
  | .nils => match P.underlying s, P.underlying d with
    | some (.slice e), some .string => match P.underlying e with
      | some (.int .u8) => some ([], .str [])
      | _ => none
    | _, _ => none
  | .row id base sz sub len => match P.underlying s, P.underlying d with
    | some (.slice e), some .string => match P.underlying e with
      | some (.int .u8) => match runAt M id base with
        | some (.u8 l) => match Nat.beq sz 1 with
          | true => some ([sub + len ≤ l.length, okLen len], .str ((l.drop sub).take len))
          | false => none
        | _ => none
      | _ => none
    | _, _ => none
  | _ => none
def nthI : List SV → Nat → Option SV
  | [], _ => none
  | x :: _, 0 => some x
  | _ :: r, n + 1 => nthI r n
def lenV (P : Program) (t : TypeId) (x : SV) : R :=
  match P.underlying t, x with
  | some .string, .str l => some ([], .int .i64 (l.length : Int))
  | some (.slice _), .ro e => some ([], .int .i64 (e.len : Int))
  | some (.slice _), .row _ _ _ _ len => some ([], .int .i64 (len : Int))
  | some (.slice _), .nils => some ([], .int .i64 0)
  | some (.array n _), _ => match Nat.ble n 9223372036854775807 with
    | true => some ([], .int .i64 (n : Int))
    | false => none
  | _, _ => none
def maxV (a b : Int) : Int := if b > a then b else a
def minV (a b : Int) : Int := if b < a then b else a
def bifV (Γ : Glob) (P : Program) (F : Tr) (b : Builtin) (ats : List TypeId) (xs : List Operand) : R :=
  match b, ats, xs with
  | .len, [t], [x] => op1 Γ F x (lenV P t)
  | .max, _, [x, y] => op1 Γ F x fun a => op1 Γ F y fun c => match a, c with
    | .int k n, .int k' m => match kindB k k' with
      | true => some ([], .int k (maxV n m))
      | false => none
    | _, _ => none
  | .min, _, [x, y] => op1 Γ F x fun a => op1 Γ F y fun c => match a, c with
    | .int k n, .int k' m => match kindB k k' with
      | true => some ([], .int k (minV n m))
      | false => none
    | _, _ => none
  | _, _, _ => none
def bound (Γ : Glob) (F : Tr) (x : Option Operand) (d : Nat) (k : List Prop → Nat → R) : R :=
  match x with
  | none => k [] d
  | some x => op1 Γ F x fun
    | .int _ n => k [0 ≤ n] n.toNat
    | _ => none
def sliceV (P : Program) (M : Mem) (t : TypeId) (lo hi : Option Nat) (φ : List Prop) (x : SV) : R :=
  match P.underlying t with
  | some .string => match x with
    | .str l => some (φ ++ [lo.getD 0 ≤ hi.getD l.length ∧ hi.getD l.length ≤ l.length], .str ((l.drop (lo.getD 0)).take (hi.getD l.length - lo.getD 0)))
    | _ => none
  | some (.slice elem) => match sizeF P elem with
    | some (s + 1) => match x with
      | .ro e => match Nat.beq e.sz (s + 1) with
        | true => some (φ ++ [lo.getD 0 ≤ hi.getD e.len ∧ hi.getD e.len ≤ e.len], .ro (e.sub (lo.getD 0) (hi.getD e.len - lo.getD 0)))
        | false => none
      | .row id base sz sub len => match Nat.beq sz (s + 1) with
        | true => some (φ ++ [lo.getD 0 ≤ hi.getD len ∧ hi.getD len ≤ len], .row id base sz (sub + lo.getD 0) (hi.getD len - lo.getD 0))
        | false => none
      | .nils => some (φ ++ [lo.getD 0 = 0 ∧ hi.getD 0 = 0], .nils)
      | _ => none
    | _ => none
  | some (.array m elem) => match sizeF P elem with
    | some (s + 1) => match x with
      | .ptr id off => match runAt M id off with
        | some e => match Nat.beq e.sz (s + 1) && Nat.ble m 9223372036854775807 with
          | true => some (φ ++ [lo.getD 0 ≤ hi.getD m ∧ hi.getD m ≤ m, m = e.len], .row id off (s + 1) (lo.getD 0) (hi.getD m - lo.getD 0))
          | false => none
        | none => none
      | .rop e i j => match dropI (e.items i) j with
        | some (.arr _ e' :: _) => match Nat.beq e'.sz (s + 1) && Nat.ble m 9223372036854775807 with
          | true => some (φ ++ [lo.getD 0 ≤ hi.getD m ∧ hi.getD m ≤ m, m = e'.len], .ro (e'.sub (lo.getD 0) (hi.getD m - lo.getD 0)))
          | false => none
        | _ => none
      | _ => none
    | _ => none
  | _ => none
def allInt (k : IntKind) : List Value → Bool
  | [] => true
  | .int k' (.ofNat 0) :: r => match kindB k k' with
    | true => allInt k r
    | false => false
  | _ :: _ => false
def takeV : List Value → Nat → Option (List Value)
  | _, 0 => some []
  | [], _ + 1 => none
  | c :: r, n + 1 => match takeV r n with
    | some l => some (c :: l)
    | none => none
def dropV : List Value → Nat → Option (List Value)
  | l, 0 => some l
  | [], _ + 1 => none
  | _ :: r, n + 1 => dropV r n
mutual
def zeroI (P : Program) : Nat → TypeId → List Value → Option (List SV)
  | 0, _, _ => none
  | d + 1, t, cs => match P.underlying t with
    | some (.struct fs) => zeroIs P d fs.toList cs
    | some (.array n e) => match P.underlying e with
      | some (.int k) => match Nat.ble 9 n with
        | true => match Nat.beq cs.length n && allInt k cs with
          | true => match k with
            | .u8 => some [.arr n (.u8 (List.replicate n 0))]
            | k => some [.arr n (.ints k (List.replicate n 0))]
          | false => none
        | false => ofCs cs
      | _ => ofCs cs
    | some _ => ofCs cs
    | none => none
def zeroIs (P : Program) : Nat → List Field → List Value → Option (List SV)
  | 0, _, _ => none
  | _ + 1, [], cs => match cs with
    | [] => some []
    | _ => none
  | d + 1, ⟨_, t, _, _, _, _, _⟩ :: fs, cs => match sizeF P t with
    | some n => match takeV cs n with
      | some a => match dropV cs n with
        | some b => match zeroI P d t a with
          | some l => match zeroIs P d fs b with
            | some m => some (l ++ m)
            | none => none
          | none => none
        | none => none
      | none => none
    | none => none
end
def zeroC (P : Program) (t : TypeId) : Option (List Value) :=
  match P.info? t with
  | some i => match i.zero with
    | some (.agg ⟨l⟩) => some l
    | some v => some [v]
    | none => none
  | none => none
def zeroOf (P : Program) (t : TypeId) : Option (List SV) :=
  match zeroC P t with
  | some l => zeroI P 200 t l
  | none => none
def wI : List SV → Nat
  | [] => 0
  | .arr n _ :: r => n + wI r
  | _ :: r => 1 + wI r
def fillI (place : Nat → Option (Nat × Nat)) : List SV → List (Nat × SV) → Option (List SV)
  | l, [] => some l
  | l, (i, s) :: r => match place i with
    | some (off, n) => match itemsOf s with
      | some x => match Nat.beq (wI x) n with
        | true => match pasteI l off n x with
          | some l' => fillI place l' r
          | none => none
        | false => none
      | none => none
    | none => none
def placesF (P : Program) : List Field → Option (List (Nat × Nat))
  | [] => some []
  | f :: r => match sizeF P f.type with
    | some s => match placesF P r with
      | some l => some ((f.offset, s) :: l)
      | none => none
    | none => none
def nth : List (Nat × Nat) → Nat → Option (Nat × Nat)
  | [], _ => none
  | x :: _, 0 => some x
  | _ :: r, n + 1 => nth r n
def partsF (Γ : Glob) (F : Tr) : List (Nat × Operand) → Option (List (Nat × SV))
  | [] => some []
  | (i, x) :: r => match opd Γ F x with
    | some s => match s with
      | .may _ _ => none
      | s => match partsF Γ F r with
        | some l => some ((i, s) :: l)
        | none => none
    | none => none
def partsC (Γ : Glob) (F : Tr) : List (Nat × Operand) → Option (List Prop × List (Nat × SV))
  | [] => some ([], [])
  | (i, x) :: r => match opd Γ F x with
    | some s => match s with
      | .may g s' => match partsC Γ F r with
        | some (φ, l) => some (g :: φ, (i, s') :: l)
        | none => none
      | s => match partsC Γ F r with
        | some (φ, l) => some (φ, (i, s) :: l)
        | none => none
    | none => none
def buildV (P : Program) (t : TypeId) (ps : List (Nat × SV)) : Option SV :=
  match P.underlying t with
  | some (.struct fs) => match zeroOf P t with
    | some z => match placesF P fs.toList with
      | some pl => match fillI (nth pl) z ps with
        | some l => some (.agg l)
        | none => none
      | none => none
    | none => none
  | some (.array _ e) => match ps with
   | [] => match zeroOf P t with
    | some z => match sizeF P e with
      | some _ => some (.agg z)
      | none => none
    | none => none
   | p :: ps => match zeroC P t with
    | some zc => match ofCs zc with
      | some z => match sizeF P e with
        | some s => match fillI (fun i => some (i * s, s)) z (p :: ps) with
          | some l => some (.agg l)
          | none => none
        | none => none
      | none => none
    | none => none
  | _ => none
def isIface : Option TypeDesc → Option Bool
  | some (.interface _) => some true
  | some _ => some false
  | none => none
def ev1 (X : IntKind → Bool) (P : Program) (Γ : Glob) (F : Tr) (M : Mem) : Op → R
  | .move x => op1 Γ F x fun s => some ([], s)
  | .assign x => op1 Γ F x fun s => some ([], s)
  | .pick c a b => op1 Γ F c fun
    | .bool cb => match opd Γ F a with
      | some sa => match opd Γ F b with
        | some sb => pickV cb sa sb
        | none => none
      | none => none
    | _ => none
  | .load t x => op1 Γ F x (loadV P M t)
  | .fieldAddr s x f => match offF P s f with
    | some o => op1 Γ F x (fieldAddrV o)
    | none => none
  | .indexAddr t x i => op1 Γ F x fun p => op1 Γ F i fun
    | .int _ n => indexAddrV P M t n p
    | _ => none
  | .index t x i => op1 Γ F x fun s => op1 Γ F i fun
    | .int _ n => indexV P t n s
    | _ => none
  | .field t x f => op1 Γ F x (fieldV P t f)
  | .binOp op t x y _ => op1 Γ F x fun a => op1 Γ F y fun b => binV X P op t a b
  | .unOp op _ x => op1 Γ F x (unV X op)
  | .convert s d x => op1 Γ F x (convV X P M s d)
  | .extract x i => op1 Γ F x fun
    | .tup l => withφ [] (nthI l i)
    | _ => none
  | .makeFunc (.func f) ⟨[]⟩ ⟨cs⟩ => match opds Γ F cs with
    | some l => some ([], .fn f l)
    | none => none
  | .makeFunc (.func f) ⟨x :: fs⟩ ⟨[]⟩ => match opds Γ F (x :: fs) with
    | some l => some ([], .mv f l)
    | none => none
  | .makeInterface t x => match isIface (P.underlying t) with
    | some false => op1 Γ F x fun s => some ([], .ifc t s)
    | _ => none
  | .nilCheck x => op1 Γ F x fun
    | .ptr id off => some ([], .ptr id off)
    | .pel id base sz i j => some ([], .pel id base sz i j)
    | .rop e i j => some ([], .rop e i j)
    | _ => none
  | .slice t x lo hi none => op1 Γ F x fun s => match lo, hi with
    | none, none => sliceV P M t none none [] (unB s)
    | some l, none => op1 Γ F l fun
      | .int _ n => sliceV P M t (some n.toNat) none [0 ≤ n] (unB s)
      | _ => none
    | none, some h => op1 Γ F h fun
      | .int _ m => sliceV P M t none (some m.toNat) [0 ≤ m] (unB s)
      | _ => none
    | some l, some h => op1 Γ F l fun
      | .int _ n => op1 Γ F h fun
        | .int _ m => sliceV P M t (some n.toNat) (some m.toNat) [0 ≤ n, 0 ≤ m] (unB s)
        | _ => none
      | _ => none
  | .build t ⟨ps⟩ => match partsC Γ F ps with
    | some (φ, l) => withφ φ (buildV P t l)
    | none => none
  | .call ⟨.builtin b, ⟨xs⟩, ⟨ats⟩⟩ => bifV Γ P F b ats xs
  | _ => none
end Go.Proofs.YtpbgihhfcdggkaaGreatDoor.V
end
section
namespace Go.Proofs.YtpbgihhfcdggkaaGreatDoor.V
open Go.RowKit
theorem inR_small {k : IntKind} {n : Int} (h : smallB k n = true) : inR k n := by
  unfold smallB at h
  split at h
  · rename_i m
    split at h
    · rename_i hm
      have hm' := Nat.le_of_ble_eq_true hm
      constructor
      · cases k <;> simp [IntKind.min, IntKind.signed, IntKind.bits] <;> omega
      · cases k <;> simp [IntKind.max, IntKind.signed, IntKind.bits] <;> omega
    · simpa [inR] using h
  · simpa [inR] using h
section
variable {E : Env} {T : Nat → Prop} {w : World}
theorem Rep.ofC {v : Value} {s : SV} (h : ofC v = some s) : Rep E T w s v ∧ s.one = true := by
  unfold V.ofC at h
  split at h <;> try (simp at h; done)
  · split at h
    · rename_i hs
      simp at h; subst h; exact ⟨.int _ _ (inR_small hs), rfl⟩
    · cases h
  · simp at h; subst h; exact ⟨.bool _, rfl⟩
  · split at h
    · rename_i hs
      simp at h; subst h
      exact ⟨.str _ (Nat.le_of_ble_eq_true hs), rfl⟩
    · cases h
  · simp at h; subst h; exact ⟨.nilp, rfl⟩
  · simp at h; subst h; exact ⟨.nils, rfl⟩
  · simp at h; subst h; exact ⟨.nilf, rfl⟩
  · simp at h; subst h; exact ⟨.nili, rfl⟩
  · simp at h; subst h; exact ⟨.fn _ _ [] .nil, rfl⟩
theorem Items.ofCs : ∀ {cs : List Value} {l : List SV}, ofCs cs = some l → Items E T w l cs
  | [], l, h => by simp [V.ofCs] at h; subst h; exact .nil
  | v :: r, l, h => by
    simp only [V.ofCs] at h
    split at h
    · rename_i s hs
      split at h
      · rename_i l' hl
        simp at h
        subst h
        obtain ⟨h1, h2⟩ := Rep.ofC (E := E) (T := T) (w := w) hs
        exact .one _ _ _ _ h2 h1 (Items.ofCs hl)
      · cases h
    · cases h
theorem Rep.ofV {v : Value} {s : SV} (h : ofV v = some s) : Rep E T w s v := by
  unfold V.ofV at h
  split at h
  · split at h
    · rename_i l hl
      simp at h
      subst h
      exact .agg _ _ (Items.ofCs hl)
    · cases h
  · exact (Rep.ofC h).1
theorem Rep.unmay {g : Prop} {s : SV} {v : Value} (h : Rep E T w (.may g s) v) (hg : g) : Rep E T w s v := by
  cases h with
  | may1 _ _ _ _ hr => exact hr
  | may0 _ _ hn => exact absurd hg hn
end
structure Vw (Γ : Glob) (F : Tr) (M : Mem) (E : Env) (T : Nat → Prop) (a : Act) (w : World) : Prop where
  slots : ∀ t s, F.get t = some s → Rep E T w s (a.tmps.getD t undef)
  mem : MOk E T M w
  glob : ∀ g e, gl Γ g = some e → Rep E T w (.rop e 0 0) (.pointer (some ⟨g, 0, none⟩))
theorem St.vw {C : Ctx} {F : Tr} {M : Mem} {U : Nat → Prop} {E : Env} {a : Act} {w : World} (h : St C F M U E a w) : Vw C.Γ F M E (trk C.T0 M E) a w := ⟨h.slots, h.mem, fun g e hg => (h.glob.rep g e hg).mono (fun i b hi => by simp [E0] at hi) (fun _ _ h => h) (Chg.refl _ w)⟩
def All (φ : List Prop) : Prop := ∀ p ∈ φ, p
theorem All.cons {p : Prop} {φ : List Prop} (h : All (p :: φ)) : p ∧ All φ := ⟨h p (List.mem_cons_self ..), fun q hq => h q (List.mem_cons_of_mem _ hq)⟩
theorem All.app {φ ψ : List Prop} (h : All (φ ++ ψ)) : All φ ∧ All ψ := ⟨fun q hq => h q (List.mem_append_left _ hq), fun q hq => h q (List.mem_append_right _ hq)⟩
theorem All.one {p : Prop} (h : All [p]) : p := h p (List.mem_cons_self ..)
section
variable {P : Program} {Γ : Glob} {F : Tr} {M : Mem} {E : Env} {a : Act} {w : World} {T : Nat → Prop}
theorem opd_rep (V : Vw Γ F M E T a w) {x : Operand} {s : SV} (h : opd Γ F x = some s) : Rep E T w s (a.eval x) := by
  cases x with
  | tmp t => exact V.slots t s h
  | const v => exact Rep.ofV h
  | global g =>
    simp only [opd] at h
    split at h
    · rename_i e he
      simp at h
      subst h
      exact V.glob g e he
    · cases h
  | func f =>
    simp [opd] at h
    subst h
    exact .fn f [] [] .nil
theorem op1_inv (V : Vw Γ F M E T a w) {x : Operand} {k : SV → R} {φ : List Prop} {r : SV} (h : op1 Γ F x k = some (φ, r)) (hφ : All φ) :
    ∃ s φ', Rep E T w s (a.eval x) ∧ k s = some (φ', r) ∧ All φ' := by
  unfold op1 at h
  split at h
  · rename_i s hs
    have hr := opd_rep V hs
    split at h
    · rename_i g s'
      split at h
      · rename_i φ' v' hk
        simp at h
        obtain ⟨rfl, rfl⟩ := h
        obtain ⟨hg, hφ'⟩ := hφ.cons
        exact ⟨s', φ', hr.unmay hg, hk, hφ'⟩
      · cases h
    · exact ⟨_, φ, hr, h, hφ⟩
  · cases h
theorem opds_tup (V : Vw Γ F M E T a w) : ∀ {l : List Operand} {r : List SV}, opds Γ F l = some r → Tup E T w r (l.map a.eval)
  | [], r, h => by simp [opds] at h; subst h; exact .nil
  | x :: l, r, h => by
    simp only [opds] at h
    split at h
    · rename_i s hs
      split at h
      · cases h
      · split at h
        · rename_i l' hl
          simp at h
          subst h
          exact .cons _ _ _ _ (opd_rep V hs) (opds_tup V hl)
        · cases h
    · cases h
theorem run_isAgg {t : TypeId} {b : Bool} (h : isAggD (P.underlying t) = some b) (w : World) : (isAgg t).run P w = .ok b w := by
  unfold isAggD at h
  split at h <;> simp at h <;> subst h <;> rename_i hu <;> simp [isAgg, run_underlying hu]
theorem sizeF_info {t n : Nat} (h : sizeF P t = some n) : ∃ i, P.info? t = some i ∧ i.size = n := by
  unfold sizeF at h
  split at h
  · rename_i i hi; exact ⟨i, hi, by simpa using h⟩
  · cases h
theorem run_sizeOf {t n : Nat} (h : sizeF P t = some n) (w : World) : (sizeOf t).run P w = .ok n w := by
  obtain ⟨i, hi, rfl⟩ := sizeF_info h
  simp [sizeOf, typeInfo, hi]
theorem ofItems_rep {b : Bool} {r : List SV} {cs : List Value} {s : SV} (h : Items E T w r cs) (hs : ofItems b r = some s) :
    (b = true → Rep E T w s (.agg cs.toArray)) ∧ (b = false → ∃ c, cs = [c] ∧ Rep E T w s c) := by
  unfold ofItems at hs
  split at hs
  · rename_i n e
    simp at hs
    subst hs
    refine ⟨fun _ => ?_, by simp⟩
    cases h with
    | one _ c _ _ h1 => simp [SV.one] at h1
    | arr _ _ _ c1 cs' hr hl =>
      cases hl
      simpa using hr
  · simp at hs
    subst hs
    exact ⟨fun _ => .agg _ _ h, by simp⟩
  · rename_i s'
    split at hs
    · cases hs
    · rename_i hne
      simp at hs
      subst hs
      refine ⟨by simp, fun _ => ?_⟩
      cases h with
      | one _ c _ _ h1 hr hl =>
        cases hl
        exact ⟨c, rfl, hr⟩
      | arr n e _ c1 cs' hr hl => exact absurd rfl (hne n e)
  · cases hs
theorem see_run {t off b o : Nat} {l : List SV} {cs : List Value} {s : SV} (hI : Items E T w l cs) (hs : seeI P t l off = some s) :
    ∃ u, Rep E T w s u ∧ ∀ w' : World, (∀ j v, cs[j]? = some v → w'.cell? ⟨b, o + j, none⟩ = some v) → (loadVar t ⟨b, o + off, none⟩).run P w' = .ok u w' := by
  unfold seeI at hs
  split at hs
  · rename_i bb hA
    split at hs
    · rename_i n hn
      split at hs
      · rename_i r hr
        obtain ⟨hle, hI'⟩ := hI.cut hr
        obtain ⟨h1, h2⟩ := ofItems_rep hI' hs
        cases bb with
        | true =>
          refine ⟨_, h1 rfl, fun w' hc => ?_⟩
          have hlen : ((cs.drop off).take n).length = n := by simp; omega
          have hcell : ∀ j v, ((cs.drop off).take n)[j]? = some v → w'.cell? ((⟨b, o + off, none⟩ : Addr).add j) = some v := fun j v hj => by
            have ha : (⟨b, o + off, none⟩ : Addr).add j = ⟨b, o + (off + j), none⟩ := by unfold Addr.add; split <;> simp_all [Nat.add_assoc]
            rw [ha]
            refine hc _ _ ?_
            have hjn : j < n := by
              rcases Nat.lt_or_ge j n with hlt | hge
              · exact hlt
              · rw [List.getElem?_take, if_neg (by omega)] at hj; cases hj
            rw [List.getElem?_take, if_pos hjn, List.getElem?_drop] at hj
            exact hj
          have hlc := run_loadCells_list (P := P) (w := w') ⟨b, o + off, none⟩ _ hcell
          rw [hlen] at hlc
          simp only [loadVar, Sem.run_bind, run_isAgg hA, Result.andThen_ok, if_true, run_sizeOf hn, hlc, Sem.run_pure]
        | false =>
          obtain ⟨c, hc1, hrep⟩ := h2 rfl
          refine ⟨c, hrep, fun w' hc => ?_⟩
          have h0 : cs[off]? = some c := by
            have : ((cs.drop off).take n)[0]? = some c := by rw [hc1]; rfl
            rw [List.getElem?_take] at this
            split at this
            · rw [List.getElem?_drop] at this; simpa using this
            · cases this
          simp only [loadVar, Sem.run_bind, run_isAgg hA, Result.andThen_ok]
          simp [hc off c h0]
      · cases hs
    · cases hs
  · cases hs
theorem cell_blk {w : World} {g : Nat} {cs : List Value} {t : TypeId} {fr : Nat × Nat} (h : w.heap[g]? = some (.cells cs.toArray t fr)) (i : Nat) : w.cell? ⟨g, i, none⟩ = cs[i]? := by
  simp [World.cell?, h]
theorem withφ_inv {φ φ' : List Prop} {o : Option SV} {r : SV} (h : withφ φ o = some (φ', r)) : φ = φ' ∧ o = some r := by
  unfold withφ at h
  split at h
  · simp at h; exact ⟨h.1, by rw [h.2]⟩
  · cases h
theorem runAt_cells (H : MOk E T M w) {id base b : Nat} {e : EV} (h : runAt M id base = some e) (hE : E id = some (some b)) :
    ∃ (c : Nat → List Value), b < w.heap.size ∧ (∀ i, i < e.len → (c i).length = e.sz) ∧ (∀ i j v, i < e.len → (c i)[j]? = some v → w.cell? ⟨b, base + i * e.sz + j, none⟩ = some v) ∧
      (∀ i, i < e.len → Items E T w (e.items i) (c i)) := by
  unfold runAt at h
  split at h
  · rename_i t e' hf
    split at h
    · rename_i hb
      have := Nat.eq_of_beq_eq_true hb
      subst this
      simp at h
      subst h
      obtain ⟨hlt, cs, c, hh, hle, hn, hc, hr⟩ := H.at hf hE
      refine ⟨c, hlt, hn, fun i j v hi hj => ?_, hr⟩
      rw [cell_blk hh, Nat.zero_add]
      exact hc i j v hi hj
    · cases h
  · rename_i t l hf
    split at h
    · rename_i n e' rest hd
      simp at h
      subst h
      obtain ⟨hlt, cs, hh, hI⟩ := H.at hf hE
      obtain ⟨h1, h2⟩ := hI.drop_ hd
      generalize hds : cs.drop base = ds at h2
      cases h2 with
      | one _ c _ _ h1 => simp [SV.one] at h1
      | arr _ _ _ c1 cs' hr hl =>
        generalize hv : Value.agg c1.toArray = v at hr
        cases hr with
        | arr _ _ cs2 c hn hl2 he h1 hc hr =>
          simp at hv
          subst hv
          refine ⟨c, hlt, hn, fun i j v hi hj => ?_, hr⟩
          rw [cell_blk hh, Nat.add_assoc]
          have hc1 := hc i j v hi hj
          have : (cs.drop base)[i * e'.sz + j]? = some v := by
            rw [hds, List.getElem?_append_left]
            · exact hc1
            · exact (List.getElem?_eq_some_iff.1 hc1).1
          rwa [List.getElem?_drop] at this
    · cases h
  · cases h
theorem below_cell {w w' : World} (hb : Below w.heap.size w w') {p : Addr} {v : Value} (h : w.cell? p = some v) : w'.cell? p = some v :=
  (hb.cell (block_lt_of_cell h)).trans h
theorem loadV_run (H : MOk E T M w) {t : TypeId} {s r : SV} {v : Value} {φ : List Prop} (h : loadV P M t s = some (φ, r)) (hφ : All φ) (hs : Rep E T w s v) :
    ∃ u, Rep E T w r u ∧ ∀ w', Below w.heap.size w w' → (Instr.loadAt t v).run P w' = .ok u w' := by
  unfold loadV at h
  split at h
  · rename_i id off
    split at h
    · rename_i t' l hf
      obtain ⟨rfl, h'⟩ := withφ_inv h
      cases hs with
      | ptr _ _ b hE =>
        obtain ⟨hlt, cs, hh, hI⟩ := H.at hf hE
        obtain ⟨u, h1, h2⟩ := see_run (P := P) (b := b) (o := 0) hI h'
        refine ⟨u, h1, fun w' hb => ?_⟩
        have := h2 w' (fun j v hj => by
          rw [Nat.zero_add]
          refine below_cell hb ?_
          rw [cell_blk hh]; exact hj)
        simp only [Nat.zero_add] at this
        simp only [Instr.loadAt, Instr.sureAddr, Sem.run_bind, Sem.run_pure, Result.andThen_ok, this]
    · cases h
  · rename_i id base sz i j
    split at h
    · rename_i e he
      split at h
      · rename_i hsz
        have := Nat.eq_of_beq_eq_true hsz
        subst this
        obtain ⟨rfl, h'⟩ := withφ_inv h
        have hi := hφ.one
        cases hs with
        | pel _ _ _ _ _ b hE =>
          obtain ⟨c, hlt, hn, hc, hr⟩ := runAt_cells H he hE
          obtain ⟨u, h1, h2⟩ := see_run (P := P) (b := b) (o := base + i * e.sz) (hr i hi) h'
          refine ⟨u, h1, fun w' hb => ?_⟩
          have := h2 w' (fun j v hj => below_cell hb (hc i j v hi hj))
          simp only [Instr.loadAt, Instr.sureAddr, Sem.run_bind, Sem.run_pure, Result.andThen_ok, this]
      · cases h
    · cases h
  · rename_i e i j
    obtain ⟨rfl, h'⟩ := withφ_inv h
    cases hs with
    | rop _ _ _ b o c hT hn hc hr hi hj hb0 =>
      obtain ⟨u, h1, h2⟩ := see_run (P := P) (b := b) (o := o + i * e.sz) (hr i hi) h'
      refine ⟨u, h1, fun w' hb => ?_⟩
      have := h2 w' (fun j v hj => below_cell hb (hc i j v hi hj))
      simp only [Instr.loadAt, Instr.sureAddr, Sem.run_bind, Sem.run_pure, Result.andThen_ok, this]
  · cases h
theorem Addr.add_mk (b o n : Nat) : (⟨b, o, none⟩ : Addr).add n = ⟨b, o + n, none⟩ := by unfold Addr.add; split <;> simp_all
theorem offF_run {s f o : Nat} (h : offF P s f = some o) (b off : Nat) (w : World) : (Instr.fieldAt s (.pointer (some ⟨b, off, none⟩)) f).run P w = .ok (.pointer (some ⟨b, off + o, none⟩)) w := by
  unfold offF at h
  split at h
  · rename_i fs hu
    split at h
    · rename_i n t o' e tg pk bo hfl
      split at h
      · rename_i sz hsz
        simp at h
        subst h
        have hfa : fs[f]? = some ⟨n, t, o', e, tg, pk, bo⟩ := by simpa using hfl
        obtain ⟨i, hi, his⟩ := sizeF_info hsz
        simp [Instr.fieldAt, Instr.sureAddr, run_underlying hu, hfa, fieldPlace, sizeOf, typeInfo, hi, his, Addr.add_mk]
      · cases h
    · cases h
  · cases h
theorem fieldAddrV_run {s f o : Nat} (ho : offF P s f = some o) {p r : SV} {v : Value} {φ : List Prop} (h : fieldAddrV o p = some (φ, r)) (hp : Rep E T w p v) :
    ∃ u, Rep E T w r u ∧ ∀ w', (Instr.fieldAt s v f).run P w' = .ok u w' := by
  unfold fieldAddrV at h
  split at h
  · rename_i id off
    simp at h
    obtain ⟨_, rfl⟩ := h
    cases hp with
    | ptr _ _ b hE => exact ⟨_, .ptr id (off + o) b hE, fun w' => offF_run ho _ _ w'⟩
  · rename_i id base sz i j
    simp at h
    obtain ⟨_, rfl⟩ := h
    cases hp with
    | pel _ _ _ _ _ b hE => exact ⟨_, .pel id base sz i (j + o) b hE, fun w' => by rw [offF_run ho, Nat.add_assoc]⟩
  · rename_i e i j
    split at h
    · rename_i hlt
      simp at h
      obtain ⟨_, rfl⟩ := h
      cases hp with
      | rop _ _ _ b o' c hT hn hc hr hi hj hb => exact ⟨_, .rop e i (j + o) b o' c hT hn hc hr hi (by simpa using hlt) hb, fun w' => by rw [offF_run ho, Nat.add_assoc]⟩
    · cases h
  · cases h
theorem indexAddrV_run {t : TypeId} {k : IntKind} {n : Int} {p r : SV} {v : Value} {φ : List Prop} (h : indexAddrV P M t n p = some (φ, r)) (hφ : All φ) (hp : Rep E T w p v) :
    ∃ u, Rep E T w r u ∧ ∀ w', (Instr.indexAt t v (.int k n)).run P w' = .ok u w' := by
  unfold indexAddrV at h
  split at h
  · rename_i elem hu
    split at h
    · rename_i s hsz
      split at h
      · rename_i e
        split at h
        · rename_i hes
          have hes' := Nat.eq_of_beq_eq_true hes
          simp at h
          obtain ⟨rfl, rfl⟩ := h
          obtain ⟨h0, h1⟩ := hφ.one
          have hlt : n.toNat < e.len := by omega
          cases hp with
          | ro0 _ h => omega
          | ro1 _ _ h => omega
          | ro _ b o n' k' c hT hn hc hr he hl ok hb =>
            refine ⟨_, .rop e n.toNat 0 b o c hT hn hc hr hlt (by omega) hb, fun w' => ?_⟩
            simp only [Instr.indexAt, asIntOf, Sem.run_bind, Sem.run_pure, Result.andThen_ok, run_underlying hu]
            simp only [he, h0, h1, and_self, if_true, Sem.run_bind, run_sizeOf hsz, Result.andThen_ok, Sem.run_pure, Addr.add_mk, hes', Nat.add_zero]
        · cases h
      · rename_i id base sz sub len
        split at h
        · rename_i hes
          have hes' := Nat.eq_of_beq_eq_true hes
          subst hes'
          simp at h
          obtain ⟨rfl, rfl⟩ := h
          obtain ⟨h0, h1⟩ := hφ.one
          cases hp with
          | row0 _ _ _ _ _ _ hl => omega
          | row _ _ _ _ _ b o c m t' hE hs ho hl ok =>
            obtain ⟨ho1, ho2⟩ := ho (by omega)
            subst ho1
            refine ⟨_, .pel id base (s + 1) (sub + n.toNat) 0 b hE, fun w' => ?_⟩
            simp only [Instr.indexAt, asIntOf, Sem.run_bind, Sem.run_pure, Result.andThen_ok, run_underlying hu]
            simp only [h0, h1, and_self, if_true, Sem.run_bind, run_sizeOf hsz, Result.andThen_ok, Sem.run_pure, Addr.add_mk, Nat.add_zero, Nat.add_mul, Nat.add_assoc]
        · cases h
      · cases h
    · cases h
  · rename_i m elem hu
    split at h
    · rename_i s hsz
      split at h
      · rename_i id off
        split at h
        · rename_i e he
          split at h
          · rename_i hes
            have hes' := Nat.eq_of_beq_eq_true hes
            simp at h
            obtain ⟨rfl, rfl⟩ := h
            obtain ⟨h0, h1⟩ := hφ.one
            cases hp with
            | ptr _ _ b hE =>
              refine ⟨_, .pel id off e.sz n.toNat 0 b hE, fun w' => ?_⟩
              simp only [Instr.indexAt, asIntOf, Sem.run_bind, Sem.run_pure, Result.andThen_ok, run_underlying hu, Instr.sureAddr]
              simp only [h0, h1, and_self, if_true, Sem.run_bind, run_sizeOf hsz, Result.andThen_ok, Sem.run_pure, Addr.add_mk, Nat.add_zero, hes']
          · cases h
        · split at h
          · simp at h
            obtain ⟨rfl, rfl⟩ := h
            obtain ⟨h0, h1⟩ := hφ.one
            cases hp with
            | ptr _ _ b hE =>
              refine ⟨_, .ptr id _ b hE, fun w' => ?_⟩
              simp only [Instr.indexAt, asIntOf, Sem.run_bind, Sem.run_pure, Result.andThen_ok, run_underlying hu, Instr.sureAddr]
              simp only [h0, h1, and_self, if_true, Sem.run_bind, run_sizeOf hsz, Result.andThen_ok, Sem.run_pure, Addr.add_mk]
          · cases h
      · rename_i e i j
        split at h
        · rename_i hez
          have e3 := Nat.eq_of_beq_eq_true hez
          split at h
          · rename_i hes
            simp only [Bool.and_eq_true] at hes
            have e1 := Nat.eq_of_beq_eq_true hes.1
            have e2 := Nat.eq_of_beq_eq_true hes.2
            subst e1
            subst e2
            simp at h
            obtain ⟨rfl, rfl⟩ := h
            have h0 : 0 ≤ n := (hφ _ (List.mem_cons_self ..)).1
            have h1 : n < (m : Int) := (hφ _ (List.mem_cons_self ..)).2
            have h2 : m = e.len := hφ _ (List.mem_cons_of_mem _ (List.mem_cons_self ..))
            cases hp with
            | rop _ _ _ b o c hT hn hc hr hi hj hb =>
              refine ⟨_, .rop e n.toNat 0 b o c hT hn hc hr (by omega) hj hb, fun w' => ?_⟩
              simp only [Instr.indexAt, asIntOf, Sem.run_bind, Sem.run_pure, Result.andThen_ok, run_underlying hu, Instr.sureAddr]
              simp only [h0, h1, and_self, if_true, Sem.run_bind, run_sizeOf hsz, Result.andThen_ok, Sem.run_pure, Addr.add_mk, Nat.add_zero, Nat.zero_mul, e3]
          · cases h
        · split at h
          · rename_i hlt
            simp at h
            obtain ⟨rfl, rfl⟩ := h
            obtain ⟨h0, h1⟩ := hφ.one
            cases hp with
            | rop _ _ _ b o c hT hn hc hr hi hj hb =>
              refine ⟨_, .rop e i _ b o c hT hn hc hr hi (by simpa using hlt) hb, fun w' => ?_⟩
              simp only [Instr.indexAt, asIntOf, Sem.run_bind, Sem.run_pure, Result.andThen_ok, run_underlying hu, Instr.sureAddr]
              simp only [h0, h1, and_self, if_true, Sem.run_bind, run_sizeOf hsz, Result.andThen_ok, Sem.run_pure, Addr.add_mk, Nat.add_assoc]
          · cases h
      · cases h
    · cases h
  · cases h
end
end Go.Proofs.YtpbgihhfcdggkaaGreatDoor.V
end
section
namespace Go.Proofs.YtpbgihhfcdggkaaGreatDoor.V
open Go.RowKit
theorem beqd {α : Type} [BEq α] [LawfulBEq α] [DecidableEq α] (a b : α) : (a == b) = decide (a = b) := by
  by_cases h : a = b <;> simp [h]
theorem inR_wrap (k : IntKind) (n : Int) : inR k (k.wrap n) := by
  unfold inR IntKind.wrap IntKind.min IntKind.max
  cases k <;> simp [IntKind.bits, IntKind.signed] <;> omega
theorem wrap_inR {k : IntKind} {n : Int} (h : inR k n) : k.wrap n = n := by
  unfold inR IntKind.min IntKind.max at h
  unfold IntKind.wrap
  cases k <;> simp [IntKind.bits, IntKind.signed] at h ⊢ <;> omega
theorem inR_wider {k k' : IntKind} {n : Int} (hw : wider k k' = true) (h : inR k n) : inR k' n := by
  unfold inR IntKind.min IntKind.max at h ⊢
  cases k <;> cases k' <;> simp [wider] at hw <;> simp [IntKind.bits, IntKind.signed] at h ⊢ <;> omega
theorem inR_u8 (b : UInt8) : inR .u8 (b.toNat : Int) := by
  have := b.toNat_lt
  simp [inR, IntKind.min, IntKind.max, IntKind.bits, IntKind.signed]
  omega
theorem inR_nat {n : Nat} (h : okLen n) : inR .i64 (n : Int) := by
  unfold okLen at h
  simp [inR, IntKind.min, IntKind.max, IntKind.bits, IntKind.signed]
  omega
theorem emod_le' {a b : Int} (ha : 0 ≤ a) (hb : 0 < b) : a % b ≤ a := by
  have h1 := Int.mul_ediv_add_emod a b
  have h2 := Int.mul_nonneg (Int.le_of_lt hb) (Int.ediv_nonneg ha (Int.le_of_lt hb))
  omega
theorem inR_tmod {k : IntKind} {a : Int} (b : Int) (h : inR k a) : inR k (a.tmod b) := by
  have h1 : a.tmod b ≤ max a 0 := by
    rcases Int.le_total 0 a with h0 | h0
    · have := Int.tmod_eq_emod_of_nonneg (b := b) h0
      rw [this]
      have h2 : a % b ≤ a := by
        rcases Int.lt_trichotomy b 0 with hb | hb | hb
        · rw [← Int.emod_neg]; exact emod_le' h0 (by omega)
        · subst hb; simp
        · exact emod_le' h0 hb
      omega
    · have : (-a).tmod b = - a.tmod b := Int.neg_tmod ..
      have h2 : 0 ≤ (-a).tmod b := Int.tmod_nonneg _ (by omega)
      omega
  have h2 : min a 0 ≤ a.tmod b := by
    rcases Int.le_total 0 a with h0 | h0
    · have := Int.tmod_nonneg b h0
      omega
    · have e : (-a).tmod b = - a.tmod b := Int.neg_tmod ..
      have := Int.tmod_eq_emod_of_nonneg (a := -a) (b := b) (by omega)
      have h2 : (-a) % b ≤ -a := by
        rcases Int.lt_trichotomy b 0 with hb | hb | hb
        · rw [← Int.emod_neg]; exact emod_le' (by omega) (by omega)
        · subst hb; simp
        · exact emod_le' (by omega) hb
      omega
  unfold inR IntKind.min IntKind.max at h ⊢
  cases k <;> simp [IntKind.bits, IntKind.signed] at h ⊢ <;> omega
section
variable {P : Program} {Γ : Glob} {F : Tr} {M : Mem} {E : Env} {a : Act} {w : World} {T : Nat → Prop}
theorem run_eqGuard_int (op : BinOp) (t : TypeId) (x y : Operand) (k k' : IntKind) (m n : Int) (w : World) : (eqGuard op t x y (.int k m) (.int k' n)).run P w = .ok () w := by
  unfold eqGuard; split <;> rfl
theorem run_eqGuard_bool (op : BinOp) (t : TypeId) (x y : Operand) (m n : Bool) (w : World) : (eqGuard op t x y (.bool m) (.bool n)).run P w = .ok () w := by
  unfold eqGuard; split <;> rfl
theorem run_eqGuard_str (op : BinOp) (t : TypeId) (x y : Operand) (m n : ByteArray) (w : World) : (eqGuard op t x y (.string m) (.string n)).run P w = .ok () w := by
  unfold eqGuard; split <;> rfl
theorem intV_run {X : IntKind → Bool} {op : BinOp} {k : IntKind} {m n : Int} {t : TypeId} {r : SV} {φ : List Prop} (hs : isShift op = false) (h : intV X op k m n = some (φ, r)) (hφ : All φ) (hm : inR k m) :
    ∃ u, Rep E T w r u ∧ ∀ w', (binOp op t (.int k m) (.int k n)).run P w' = .ok u w' := by
  unfold intV at h
  split at h
  · split at h <;> simp at h <;> obtain ⟨rfl, rfl⟩ := h
    · have hr := hφ.one
      exact ⟨_, .int _ _ hr, fun w' => by simp [binOp, Op.intArith, wrap_inR hr]⟩
    · exact ⟨_, .int _ _ (inR_wrap _ _), fun w' => by simp [binOp, Op.intArith]⟩
  · split at h <;> simp at h <;> obtain ⟨rfl, rfl⟩ := h
    · have hr := hφ.one
      exact ⟨_, .int _ _ hr, fun w' => by simp [binOp, Op.intArith, wrap_inR hr]⟩
    · exact ⟨_, .int _ _ (inR_wrap _ _), fun w' => by simp [binOp, Op.intArith]⟩
  · split at h <;> simp at h <;> obtain ⟨rfl, rfl⟩ := h
    · have hr := hφ.one
      exact ⟨_, .int _ _ hr, fun w' => by simp [binOp, Op.intArith, wrap_inR hr]⟩
    · exact ⟨_, .int _ _ (inR_wrap _ _), fun w' => by simp [binOp, Op.intArith]⟩
  · split at h <;> simp at h <;> obtain ⟨rfl, rfl⟩ := h
    · obtain ⟨h0, h1⟩ := hφ.one
      have hr : inR k (m / n) := by
        have h2 := Int.ediv_nonneg h0 (Int.le_of_lt h1)
        have h3 := Int.ediv_le_self n h0
        unfold inR at hm ⊢
        have hmin : k.min ≤ 0 := by cases k <;> simp [IntKind.min, IntKind.signed, IntKind.bits]
        omega
      exact ⟨_, .int _ _ hr, fun w' => by simp [binOp, Op.intDiv, show n ≠ 0 by omega, Int.tdiv_eq_ediv_of_nonneg h0, wrap_inR hr]⟩
    · have h1 := hφ.one
      exact ⟨_, .int _ _ (inR_wrap _ _), fun w' => by simp [binOp, Op.intDiv, h1]⟩
  · split at h <;> simp at h <;> obtain ⟨rfl, rfl⟩ := h
    · obtain ⟨h0, h1⟩ := hφ.one
      have hr : inR k (m % n) := by rw [← Int.tmod_eq_emod_of_nonneg h0]; exact inR_tmod n hm
      exact ⟨_, .int _ _ hr, fun w' => by simp [binOp, Op.intDiv, show n ≠ 0 by omega, Int.tmod_eq_emod_of_nonneg h0]⟩
    · have h1 := hφ.one
      exact ⟨_, .int _ _ (inR_tmod n hm), fun w' => by simp [binOp, Op.intDiv, h1]⟩
  · simp at h; obtain ⟨rfl, rfl⟩ := h
    exact ⟨_, .bool _, fun w' => by simp [binOp, Op.intCmp, beqd]⟩
  · simp at h; obtain ⟨rfl, rfl⟩ := h
    exact ⟨_, .bool _, fun w' => by simp [binOp, Op.intCmp, bne, beqd]⟩
  · simp at h; obtain ⟨rfl, rfl⟩ := h
    exact ⟨_, .bool _, fun w' => by simp [binOp, Op.intCmp]⟩
  · simp at h; obtain ⟨rfl, rfl⟩ := h
    exact ⟨_, .bool _, fun w' => by simp [binOp, Op.intCmp]⟩
  · simp at h; obtain ⟨rfl, rfl⟩ := h
    exact ⟨_, .bool _, fun w' => by simp [binOp, Op.intCmp]⟩
  · simp at h; obtain ⟨rfl, rfl⟩ := h
    exact ⟨_, .bool _, fun w' => by simp [binOp, Op.intCmp]⟩
  · cases h
  · cases h
  · split at h
    · rename_i v hb
      simp at h; obtain ⟨rfl, rfl⟩ := h
      unfold bitV at hb
      split at hb <;> simp at hb
      all_goals
        subst hb
        exact ⟨_, .int _ _ (inR_wrap _ _), fun w' => by simp [binOp, Op.intBits]⟩
    · cases h
theorem shiftV_run {X : IntKind → Bool} {op : BinOp} {k k' : IntKind} {m n : Int} {t : TypeId} {r : SV} {φ : List Prop} (h : shiftV X op k m n = some (φ, r)) (hφ : All φ) (hm : inR k m) :
    ∃ u, Rep E T w r u ∧ ∀ w', (binOp op t (.int k m) (.int k' n)).run P w' = .ok u w' := by
  have hpos : ∀ j : Nat, (0 : Int) ≤ 2 ^ j := fun j => Int.le_of_lt (Int.pow_pos (by omega))
  have hdiv : ∀ j : Nat, inR k (m / (2 : Int) ^ j) := fun j => by
    have hp : (0 : Int) < 2 ^ j := Int.pow_pos (by omega)
    have h1 : (2 : Int) ^ j * (m / 2 ^ j) + m % 2 ^ j = m := Int.mul_ediv_add_emod m (2 ^ j)
    have h2 := Int.emod_nonneg m (Int.ne_of_gt hp)
    have h3 := Int.emod_lt_of_pos m hp
    unfold inR at hm ⊢
    have hmin : k.min ≤ 0 := by cases k <;> simp [IntKind.min, IntKind.signed, IntKind.bits]
    have hmax : 0 ≤ k.max := by cases k <;> simp [IntKind.max, IntKind.signed, IntKind.bits]
    rcases Int.le_total 0 m with h0 | h0
    · have := Int.ediv_nonneg h0 (Int.le_of_lt hp)
      have := Int.ediv_le_self (2 ^ j) h0
      omega
    · have h4 : m ≤ m / 2 ^ j := by
        rw [Int.le_ediv_iff_mul_le hp]
        have : m * 2 ^ j ≤ m * 1 := Int.mul_le_mul_of_nonpos_left h0 (by omega)
        omega
      have h5 : m / 2 ^ j ≤ 0 := by
        have := Int.ediv_le_ediv hp h0
        simpa using this
      omega
  unfold shiftV at h
  split at h
  · split at h <;> simp at h <;> obtain ⟨rfl, rfl⟩ := h
    · obtain ⟨h0, h1, hr⟩ := hφ.one
      have : min n.toNat k.bits = n.toNat := by omega
      exact ⟨_, .int _ _ hr, fun w' => by simp [binOp, Op.shift, show ¬ n < 0 by omega, this, wrap_inR hr]⟩
    · have h0 := hφ.one
      exact ⟨_, .int _ _ (inR_wrap _ _), fun w' => by simp [binOp, Op.shift, show ¬ n < 0 by omega]⟩
  · split at h <;> simp at h <;> obtain ⟨rfl, rfl⟩ := h
    · obtain ⟨h0, h1⟩ := hφ.one
      have : min n.toNat k.bits = n.toNat := by omega
      exact ⟨_, .int _ _ (hdiv _), fun w' => by simp [binOp, Op.shift, show ¬ n < 0 by omega, this, Int.fdiv_eq_ediv_of_nonneg _ (hpos _)]⟩
    · have h0 := hφ.one
      have e := Int.fdiv_eq_ediv_of_nonneg m (hpos (min n.toNat k.bits))
      rw [e]
      exact ⟨_, .int _ _ (hdiv _), fun w' => by simp [binOp, Op.shift, show ¬ n < 0 by omega, e]⟩
  · cases h
theorem strV_run {op : BinOp} {m n : List UInt8} {t : TypeId} {r : SV} {φ : List Prop} (h : strV op m n = some (φ, r)) (hφ : All φ) :
    ∃ u, Rep E T w r u ∧ ∀ w', (binOp op t (.string ⟨m.toArray⟩) (.string ⟨n.toArray⟩)).run P w' = .ok u w' := by
  unfold strV at h
  split at h <;> simp at h <;> obtain ⟨rfl, rfl⟩ := h
  · have h0 := hφ.one
    refine ⟨_, .str _ (by simpa using h0), fun w' => ?_⟩
    have hm : ((m.length : Int) + n.length) ≤ IntKind.i64.max := by
      unfold okLen at h0
      simp [IntKind.max, IntKind.signed, IntKind.bits]
      omega
    have hsz : ∀ l : List UInt8, (ByteArray.mk l.toArray).size = l.length := fun l => by simp [ByteArray.size]
    have happ : (ByteArray.mk m.toArray) ++ (ByteArray.mk n.toArray) = ⟨(m ++ n).toArray⟩ := by
      apply ByteArray.ext
      simp
    simp only [binOp, Op.stringOp, hsz]
    rw [if_neg (by simp only [Int.natCast_add]; omega), happ]
    rfl
  · exact ⟨_, .bool _, fun w' => by simp [binOp, Op.stringOp, beqd]⟩
  · exact ⟨_, .bool _, fun w' => by simp [binOp, Op.stringOp, beqd]⟩
  · exact ⟨_, .bool _, fun w' => by simp [binOp, Op.stringOp]⟩
  · exact ⟨_, .bool _, fun w' => by simp [binOp, Op.stringOp, beqd]⟩
  · exact ⟨_, .bool _, fun w' => by simp [binOp, Op.stringOp, beqd]⟩
  · exact ⟨_, .bool _, fun w' => by simp [binOp, Op.stringOp]⟩
theorem Items.head {s : SV} {l : List SV} {cs : List Value} (h : Items E T w (s :: l) cs) (h1 : s.one = true) : ∃ c r, cs = c :: r ∧ Rep E T w s c ∧ Items E T w l r := by
  cases h with
  | one _ c _ r _ hr hl => exact ⟨c, r, rfl, hr, hl⟩
  | arr n e _ c1 cs hr hl => simp [SV.one] at h1
theorem takeI_self : ∀ {l r : List SV} {n : Nat}, takeI l n = some r → takeI r n = some r
  | l, r, 0, h => by
    have : r = [] := by cases l <;> simpa [takeI] using h.symm
    subst this
    rfl
  | [], r, n + 1, h => by simp [takeI] at h
  | s :: l, r, n + 1, h => by
    cases s
    case arr m e =>
      simp only [takeI] at h
      split at h
      · rename_i hle
        split at h
        · rename_i l' hl'
          simp at h
          subst h
          simp only [takeI, hle, takeI_self hl']
        · cases h
      · cases h
    all_goals
      simp only [takeI] at h
      split at h
      · rename_i l' hl'
        simp at h
        subst h
        simp only [takeI, takeI_self hl']
      · cases h
theorem agg_cells {n : Nat} {e : EV} {v : Value} {x : Operand} (h : Rep E T w (.arr n e) v) (hx : a.eval x = v) : a.eval x = .agg v.cells.toList.toArray := by
  cases h
  simpa [Value.cells] using hx
theorem agg_cells' {l : List SV} {v : Value} {x : Operand} (h : Rep E T w (.agg l) v) (hx : a.eval x = v) : a.eval x = .agg v.cells.toList.toArray := by
  cases h
  simpa [Value.cells] using hx
def ValT (P : Program) (t : TypeId) (cs : List Value) (v : Value) : Prop :=
  match isAggD (P.underlying t) with
  | some true => v = .agg cs.toArray
  | some false => cs = [v]
  | none => False
theorem eq_part {t : TypeId} {s n : Nat} {xs : Array Value} {xl xa : List SV} (hs : sizeF P t = some s) (hX : Items E T w xl (xs.toList.drop n)) (ha : takeI xl s = some xa) (h1 : isAggD (P.underlying t) = some true ∨ (isAggD (P.underlying t) = some false ∧ s = 1)) :
    ∃ v cx, Items E T w xa cx ∧ ValT P t cx v ∧ ∀ w', (part t xs n).run P w' = .ok v w' := by
  obtain ⟨hle, hI⟩ := hX.take_ ha
  rcases h1 with h1 | ⟨h1, rfl⟩
  · refine ⟨_, _, hI, by unfold ValT; rw [h1], fun w' => ?_⟩
    have : xs.extract n (n + s) = ((xs.toList.drop n).take s).toArray := by
      apply Array.ext'
      simp
    simp only [part, Sem.run_bind, run_isAgg h1, Result.andThen_ok, if_true, run_sizeOf hs, Sem.run_pure, this]
  · have hlt : n < xs.size := by simp at hle; omega
    refine ⟨xs[n], _, hI, ?_, fun w' => ?_⟩
    · unfold ValT
      rw [h1]
      rw [List.drop_eq_getElem_cons (by simpa using hlt)]
      simp
    · simp only [part, Sem.run_bind, run_isAgg h1, Result.andThen_ok, Bool.false_eq_true, if_false, Array.getElem?_eq_getElem hlt, Sem.run_pure]
theorem eqFs_run {q : TypeId → List SV → List SV → Q2} {D : Nat} {xs ys : Array Value} (hq : ∀ t xl yl φ b cx cy vx vy, q t xl yl = some (φ, b) → All φ → Items E T w xl cx → Items E T w yl cy → ValT P t cx vx → ValT P t cy vy → ∀ w', (Op.equalIn D t vx vy).run P w' = .ok b w')
    (hk : ∀ t xl yl φ b s, q t xl yl = some (φ, b) → sizeF P t = some s → takeI xl s = some xl → isAggD (P.underlying t) = some true ∨ (isAggD (P.underlying t) = some false ∧ s = 1)) :
    ∀ {fs : List Field} {n : Nat} {xl yl : List SV} {φ : List Prop} {b : Bool}, eqFs P q fs n xl yl = some (φ, b) → All φ → Items E T w xl (xs.toList.drop n) → Items E T w yl (ys.toList.drop n) → ∀ w', (Op.eqFields D xs ys fs).run P w' = .ok b w'
  | [], n, xl, yl, φ, b, h, _, _, _, w' => by
    simp [eqFs] at h
    obtain ⟨_, rfl⟩ := h
    simp [Op.eqFields]
  | ⟨nm, t, off, e, tg, pk, bo⟩ :: fs, n, xl, yl, φ, b, h, hφ, hX, hY, w' => by
    simp only [eqFs] at h
    split at h
    case h_2 => cases h
    case h_1 ho =>
    simp only [Bool.and_eq_true, bne_iff_ne] at ho
    have ho' := Nat.eq_of_beq_eq_true ho.1
    have hnm := ho.2
    subst ho'
    split at h
    case h_2 => cases h
    case h_1 s hs =>
    split at h
    case h_2 => cases h
    case h_1 xa hxa =>
    split at h
    case h_2 => cases h
    case h_1 ya hya =>
    split at h
    case h_2 => cases h
    case h_1 xb hxb =>
    split at h
    case h_2 => cases h
    case h_1 yb hyb =>
    split at h
    case h_2 => cases h
    case h_1 φ1 a hqa =>
    split at h
    case h_2 => cases h
    case h_1 ψ b2 hr =>
    simp only [Option.some.injEq, Prod.mk.injEq] at h
    obtain ⟨rfl, rfl⟩ := h
    have hφ1 : All φ1 := fun p hp => hφ p (List.mem_append_left _ hp)
    have hψ : All ψ := fun p hp => hφ p (List.mem_append_right _ hp)
    have hk1 := hk t xa ya φ1 a s hqa hs (takeI_self hxa)
    obtain ⟨vx, cx, hI1, hv1, hp1⟩ := eq_part (P := P) hs hX hxa hk1
    obtain ⟨vy, cy, hI2, hv2, hp2⟩ := eq_part (P := P) hs hY hya hk1
    have hX' := (hX.drop_ hxb).2
    have hY' := (hY.drop_ hyb).2
    rw [List.drop_drop] at hX' hY'
    have ih := eqFs_run hq hk hr hψ hX' hY' w'
    simp only [Op.eqFields, ne_eq, hnm, not_false_eq_true, if_true, Sem.run_bind, hp1, hp2, Result.andThen_ok, hq t xa ya φ1 a cx cy vx vy hqa hφ1 hI1 hI2 hv1 hv2]
    cases a
    · simp
    · simp only [Bool.not_true, Bool.false_eq_true, if_false, Bool.true_and]
      exact ih
theorem eqEs_run {q : List SV → List SV → Q2} {D s : Nat} {e : TypeId} {xs ys : Array Value} (hs : sizeF P e = some s) (hq : ∀ xl yl φ b cx cy vx vy, q xl yl = some (φ, b) → All φ → Items E T w xl cx → Items E T w yl cy → ValT P e cx vx → ValT P e cy vy → ∀ w', (Op.equalIn D e vx vy).run P w' = .ok b w')
    (hk : ∀ xl yl φ b, q xl yl = some (φ, b) → takeI xl s = some xl → isAggD (P.underlying e) = some true ∨ (isAggD (P.underlying e) = some false ∧ s = 1)) :
    ∀ {n i : Nat} {xl yl : List SV} {φ : List Prop} {b : Bool}, eqEs q s n xl yl = some (φ, b) → All φ → Items E T w xl (xs.toList.drop (i * s)) → Items E T w yl (ys.toList.drop (i * s)) → ∀ w', (Op.eqItems D e s xs ys (List.range' i n)).run P w' = .ok b w'
  | 0, i, xl, yl, φ, b, h, _, _, _, w' => by
    simp [eqEs] at h
    obtain ⟨_, rfl⟩ := h
    simp [Op.eqItems]
  | n + 1, i, xl, yl, φ, b, h, hφ, hX, hY, w' => by
    simp only [eqEs] at h
    split at h
    case h_2 => cases h
    case h_1 xa hxa =>
    split at h
    case h_2 => cases h
    case h_1 ya hya =>
    split at h
    case h_2 => cases h
    case h_1 xb hxb =>
    split at h
    case h_2 => cases h
    case h_1 yb hyb =>
    split at h
    case h_2 => cases h
    case h_1 φ1 a hqa =>
    split at h
    case h_2 => cases h
    case h_1 ψ b2 hr =>
    simp only [Option.some.injEq, Prod.mk.injEq] at h
    obtain ⟨rfl, rfl⟩ := h
    have hφ1 : All φ1 := fun p hp => hφ p (List.mem_append_left _ hp)
    have hψ : All ψ := fun p hp => hφ p (List.mem_append_right _ hp)
    have hk1 := hk xa ya φ1 a hqa (takeI_self hxa)
    obtain ⟨vx, cx, hI1, hv1, hp1⟩ := eq_part (P := P) hs hX hxa hk1
    obtain ⟨vy, cy, hI2, hv2, hp2⟩ := eq_part (P := P) hs hY hya hk1
    have hX' := (hX.drop_ hxb).2
    have hY' := (hY.drop_ hyb).2
    rw [List.drop_drop] at hX' hY'
    have e1 : i * s + s = (i + 1) * s := by rw [Nat.add_mul, Nat.one_mul]
    rw [e1] at hX' hY'
    have ih := eqEs_run hs hq hk hr hψ hX' hY' w'
    simp only [List.range'_succ, Op.eqItems, Sem.run_bind, hp1, hp2, Result.andThen_ok, hq xa ya φ1 a cx cy vx vy hqa hφ1 hI1 hI2 hv1 hv2]
    cases a
    · simp
    · simp only [Bool.not_true, Bool.false_eq_true, if_false, Bool.true_and]
      exact ih
theorem eqCells_run {D : Nat} {e : TypeId} {k k0 : IntKind} {xs ys : Array Value} {f g : Nat → Int} (he : P.underlying e = some (.int k0)) :
    ∀ (n i : Nat), (∀ j, i ≤ j → j < i + n → xs[j]? = some (.int k (f j)) ∧ ys[j]? = some (.int k (g j))) → ∀ w', ∃ b : Bool, (Op.eqItems (D + 1) e 1 xs ys (List.range' i n)).run P w' = .ok b w' ∧ (b = true ↔ ∀ j, i ≤ j → j < i + n → f j = g j)
  | 0, i, _, w' => ⟨true, by simp [Op.eqItems], by simp; intro j h1 h2; omega⟩
  | n + 1, i, h, w' => by
    obtain ⟨b, hb, hi⟩ := eqCells_run (D := D) he n (i + 1) (fun j h1 h2 => h j (by omega) (by omega)) w'
    obtain ⟨hx, hy⟩ := h i (Nat.le_refl _) (by omega)
    have hA : isAggD (P.underlying e) = some false := by rw [he]; rfl
    have p1 : (part e xs (i * 1)).run P w' = .ok (.int k (f i)) w' := by
      simp only [part, Sem.run_bind, run_isAgg hA, Result.andThen_ok, Bool.false_eq_true, if_false, Nat.mul_one, hx, Sem.run_pure]
    have p2 : (part e ys (i * 1)).run P w' = .ok (.int k (g i)) w' := by
      simp only [part, Sem.run_bind, run_isAgg hA, Result.andThen_ok, Bool.false_eq_true, if_false, Nat.mul_one, hy, Sem.run_pure]
    simp only [List.range'_succ, Op.eqItems, Sem.run_bind, p1, p2, Result.andThen_ok, run_equalIn_int w' D e k k0 _ _ he]
    by_cases hfg : f i = g i
    · refine ⟨b, by simpa [hfg] using hb, ?_⟩
      rw [hi]
      constructor
      · intro H j h1 h2
        rcases Nat.lt_or_ge i j with h3 | h3
        · exact H j (by omega) (by omega)
        · have : j = i := by omega
          subst this; exact hfg
      · intro H j h1 h2
        exact H j (by omega) (by omega)
    · refine ⟨false, by simp [hfg], ?_⟩
      simp only [Bool.false_eq_true, false_iff]
      intro H
      exact hfg (H i (Nat.le_refl _) (by omega))
theorem eqT_kind {d : Nat} {t : TypeId} {xl yl : List SV} {φ : List Prop} {b : Bool} {s : Nat} (h : eqT P d t xl yl = some (φ, b)) (hs : sizeF P t = some s) (ht : takeI xl s = some xl) : isAggD (P.underlying t) = some true ∨ (isAggD (P.underlying t) = some false ∧ s = 1) := by
  have one : ∀ x : SV, x.one = true → takeI [x] s = some [x] → s = 1 := fun x hx h => by
    match s with
    | 0 => simp [takeI] at h
    | 1 => rfl
    | n + 2 => cases x <;> simp [takeI, SV.one] at h hx
  cases d with
  | zero => simp [eqT] at h
  | succ d =>
    simp only [eqT] at h
    split at h
    · rename_i hu
      right
      refine ⟨by rw [hu]; rfl, ?_⟩
      split at h
      · exact one _ rfl ht
      · cases h
    · rename_i hu
      right
      refine ⟨by rw [hu]; rfl, ?_⟩
      split at h
      · exact one _ rfl ht
      · cases h
    · rename_i hu
      right
      refine ⟨by rw [hu]; rfl, ?_⟩
      split at h
      · exact one _ rfl ht
      · cases h
    · rename_i hu
      left; rw [hu]; rfl
    · rename_i hu
      left; rw [hu]; rfl
    · cases h
theorem arr_only {n : Nat} {e : EV} {cs : List Value} (h : Items E T w [.arr n e] cs) : Rep E T w (.arr n e) (.agg cs.toArray) := by
  cases h with
  | one _ _ _ _ h1 => simp [SV.one] at h1
  | arr _ _ _ c1 cs hr hl =>
    cases hl
    simpa using hr
theorem arr_u8_cells {n : Nat} {l : List UInt8} {cs : List Value} (h : Rep E T w (.arr n (.u8 l)) (.agg cs.toArray)) : l.length = n ∧ ∀ j, j < n → cs[j]? = some (.int .u8 ((l.getD j 0).toNat : Int)) := by
  generalize hv : Value.agg cs.toArray = v at h
  cases h with
  | arr n e cs' c hn hl he h1 hc hr =>
    simp at hv
    subst hv
    simp only [EV.len, EV.sz, Nat.mul_one] at he hn hc hr
    refine ⟨he, fun j hj => ?_⟩
    have hi := hr j (by omega)
    simp only [EV.items] at hi
    obtain ⟨cc, r, e1, hr1, _⟩ := hi.head rfl
    have := hc j 0 cc (by omega) (by simp [e1])
    cases hr1
    simpa using this
theorem arr_int_cells {n : Nat} {k : IntKind} {l : List Int} {cs : List Value} (h : Rep E T w (.arr n (.ints k l)) (.agg cs.toArray)) : l.length = n ∧ ∀ j, j < n → cs[j]? = some (.int k (l.getD j 0)) := by
  generalize hv : Value.agg cs.toArray = v at h
  cases h with
  | arr n e cs' c hn hl he h1 hc hr =>
    simp at hv
    subst hv
    simp only [EV.len, EV.sz, Nat.mul_one] at he hn hc hr
    refine ⟨he, fun j hj => ?_⟩
    have hi := hr j (by omega)
    simp only [EV.items] at hi
    obtain ⟨cc, r, e1, hr1, _⟩ := hi.head rfl
    have := hc j 0 cc (by omega) (by simp [e1])
    cases hr1
    simpa using this
theorem list_eq_iff {α : Type} {l m : List α} {z : α} {n : Nat} (hl : l.length = n) (hm : m.length = n) : (∀ j, j < n → l.getD j z = m.getD j z) ↔ l = m := by
  constructor
  · intro H
    apply List.ext_getElem (hl.trans hm.symm)
    intro i h1 h2
    have := H i (by omega)
    simpa [List.getD, List.getElem?_eq_getElem h1, List.getElem?_eq_getElem h2] using this
  · rintro rfl j _; rfl
theorem eqT_run : ∀ {d D : Nat} (_ : d < D) {t : TypeId} {xl yl : List SV} {φ : List Prop} {b : Bool} {cx cy : List Value} {vx vy : Value}, eqT P d t xl yl = some (φ, b) → All φ → Items E T w xl cx → Items E T w yl cy → ValT P t cx vx → ValT P t cy vy →
    ∀ w', (Op.equalIn D t vx vy).run P w' = .ok b w'
  | 0, D, hD, t, xl, yl, φ, b, cx, cy, vx, vy, h, _, _, _, _, _, w' => by simp [eqT] at h
  | d + 1, 0, hD, t, xl, yl, φ, b, cx, cy, vx, vy, h, _, _, _, _, _, w' => by omega
  | d + 1, D + 1, hD, t, xl, yl, φ, b, cx, cy, vx, vy, h, hφ, hX, hY, hvx, hvy, w' => by
    simp only [eqT] at h
    split at h
    · rename_i k0 hu
      have hA : isAggD (P.underlying t) = some false := by rw [hu]; rfl
      unfold ValT at hvx hvy
      rw [hA] at hvx hvy
      dsimp only at hvx hvy
      subst hvx
      subst hvy
      split at h
      · rename_i k a k' b'
        split at h
        · rename_i hk
          have hk' := kindB_eq hk
          subst hk'
          simp only [Option.some.injEq, Prod.mk.injEq] at h
          obtain ⟨_, rfl⟩ := h
          obtain ⟨u, r, e1, h1, _⟩ := hX.head rfl
          obtain ⟨v, r', e2, h2, _⟩ := hY.head rfl
          cases e1
          cases e2
          cases h1
          cases h2
          rw [run_equalIn_int w' D t k k0 a b' hu, beqd]
        · cases h
      · cases h
    · rename_i hu
      have hA : isAggD (P.underlying t) = some false := by rw [hu]; rfl
      unfold ValT at hvx hvy
      rw [hA] at hvx hvy
      dsimp only at hvx hvy
      subst hvx
      subst hvy
      split at h
      · simp only [Option.some.injEq, Prod.mk.injEq] at h
        obtain ⟨_, rfl⟩ := h
        obtain ⟨u, r, e1, h1, _⟩ := hX.head rfl
        obtain ⟨v, r', e2, h2, _⟩ := hY.head rfl
        cases e1
        cases e2
        cases h1
        cases h2
        rw [run_equalIn_bool' w' D t _ _ hu]
      · cases h
    · rename_i hu
      have hA : isAggD (P.underlying t) = some false := by rw [hu]; rfl
      unfold ValT at hvx hvy
      rw [hA] at hvx hvy
      dsimp only at hvx hvy
      subst hvx
      subst hvy
      split at h
      · simp only [Option.some.injEq, Prod.mk.injEq] at h
        obtain ⟨_, rfl⟩ := h
        obtain ⟨u, r, e1, h1, _⟩ := hX.head rfl
        obtain ⟨v, r', e2, h2, _⟩ := hY.head rfl
        cases e1
        cases e2
        cases h1
        cases h2
        rw [run_equalIn_string w' D t _ _ hu, ByteArray.toList_mk, ByteArray.toList_mk, beqd]
      · cases h
    · rename_i fs hu
      have hA : isAggD (P.underlying t) = some true := by rw [hu]; rfl
      unfold ValT at hvx hvy
      rw [hA] at hvx hvy
      dsimp only at hvx hvy
      subst hvx
      subst hvy
      split at h
      · rename_i φ1 b1 hr
        simp only [Option.some.injEq, Prod.mk.injEq] at h
        obtain ⟨rfl, rfl⟩ := h
        have hq : eqOk P t = true := hφ _ (List.mem_cons_self ..)
        simp only [eqOk, Bool.and_eq_true, Bool.not_eq_true'] at hq
        have hfo : P.fieldsOf t = fs.toList.toArray := by simp [Program.fieldsOf, hu]
        rw [run_equalIn_struct w' D t cx.toArray cy.toArray (by simpa [hfo] using hu) hq.2, hfo]
        have := eqFs_run (P := P) (D := D) (xs := cx.toArray) (ys := cy.toArray) (fun t xl yl φ b cx cy vx vy h1 h2 h3 h4 h5 h6 => eqT_run (by omega) h1 h2 h3 h4 h5 h6) (fun t xl yl φ b s h1 h2 h3 => eqT_kind h1 h2 h3) hr (fun p hp => hφ p (List.mem_cons_of_mem _ hp)) (by simpa using hX) (by simpa using hY) w'
        simpa using this
      · cases h
    · rename_i n e hu
      have hA : isAggD (P.underlying t) = some true := by rw [hu]; rfl
      unfold ValT at hvx hvy
      rw [hA] at hvx hvy
      dsimp only at hvx hvy
      subst hvx
      subst hvy
      split at h
      case h_2 => cases h
      case h_1 s hs =>
      have hs' := hs
      unfold sizeF at hs'
      split at hs'
      case h_2 => cases hs'
      case h_1 info hi =>
      have hc : P.cellsOf e = s := by
        simp at hs'
        simp [Program.cellsOf, hi, hs']
      rw [run_equalIn_array w' D cx.toArray cy.toArray hu hi, hc, List.range_eq_range']
      split at h
      · rename_i m a m' b'
        split at h
        case h_2 => cases h
        case h_1 k0 he =>
        split at h
        case h_2 => cases h
        case h_1 hm =>
        simp only [Bool.and_eq_true] at hm
        have m1 := Nat.eq_of_beq_eq_true hm.1.1
        have m2 := Nat.eq_of_beq_eq_true hm.1.2
        have m3 := Nat.eq_of_beq_eq_true hm.2
        subst m1
        subst m2
        subst m3
        simp only [Option.some.injEq, Prod.mk.injEq] at h
        obtain ⟨_, rfl⟩ := h
        obtain ⟨l1, c1⟩ := arr_u8_cells (arr_only hX)
        obtain ⟨l2, c2⟩ := arr_u8_cells (arr_only hY)
        cases D with
        | zero => omega
        | succ D =>
          obtain ⟨b1, h1, h2⟩ := eqCells_run (P := P) (D := D) (k := .u8) (xs := cx.toArray) (ys := cy.toArray) (f := fun j => ((a.getD j 0).toNat : Int)) (g := fun j => ((b'.getD j 0).toNat : Int)) he m' 0 (fun j _ hj => ⟨by simpa using c1 j (by omega), by simpa using c2 j (by omega)⟩) w'
          rw [h1]
          congr 1
          rw [Bool.eq_iff_iff, h2, decide_eq_true_eq, ← list_eq_iff (z := 0) l1 l2]
          constructor
          · intro H j hj
            have := H j (Nat.zero_le _) (by omega)
            exact UInt8.toNat_inj.1 (by omega)
          · intro H j _ hj
            rw [H j (by omega)]
      · rename_i m k a m' k' b'
        split at h
        case h_2 => cases h
        case h_1 k0 he =>
        split at h
        case h_2 => cases h
        case h_1 hm =>
        simp only [Bool.and_eq_true] at hm
        have m1 := Nat.eq_of_beq_eq_true hm.1.1.1
        have m2 := Nat.eq_of_beq_eq_true hm.1.1.2
        have m3 := Nat.eq_of_beq_eq_true hm.1.2
        have m4 := kindB_eq hm.2
        subst m1
        subst m2
        subst m3
        subst m4
        simp only [Option.some.injEq, Prod.mk.injEq] at h
        obtain ⟨_, rfl⟩ := h
        obtain ⟨l1, c1⟩ := arr_int_cells (arr_only hX)
        obtain ⟨l2, c2⟩ := arr_int_cells (arr_only hY)
        cases D with
        | zero => omega
        | succ D =>
          obtain ⟨b1, h1, h2⟩ := eqCells_run (P := P) (D := D) (k := k) (xs := cx.toArray) (ys := cy.toArray) (f := fun j => a.getD j 0) (g := fun j => b'.getD j 0) he m' 0 (fun j _ hj => ⟨by simpa using c1 j (by omega), by simpa using c2 j (by omega)⟩) w'
          rw [h1]
          congr 1
          rw [Bool.eq_iff_iff, h2, decide_eq_true_eq, ← list_eq_iff (z := 0) l1 l2]
          constructor
          · intro H j hj
            exact H j (Nat.zero_le _) (by omega)
          · intro H j _ hj
            exact H j (by omega)
      · exact eqEs_run (P := P) (D := D) (xs := cx.toArray) (ys := cy.toArray) hs (fun xl yl φ b cx cy vx vy h1 h2 h3 h4 h5 h6 => eqT_run (by omega) h1 h2 h3 h4 h5 h6) (fun xl yl φ b h1 h3 => eqT_kind h1 hs h3) h hφ (by simpa using hX) (by simpa using hY) w'
    · cases h
theorem aggV_run {op : BinOp} {t t' : TypeId} {x y : Operand} {m n : List SV} {cx cy : List Value} {r : SV} {φ : List Prop} (h : aggV P op t m n = some (φ, r)) (hφ : All φ) (hm : Items E T w m cx) (hn : Items E T w n cy) (hx : a.eval x = .agg cx.toArray) (hy : a.eval y = .agg cy.toArray) :
    ∃ u, Rep E T w r u ∧ ∀ (w' : World) (o : Oper), o.op = .binOp op t x y t' → (execOp a.eval o).run P w' = .ok (.value u) w' := by
  unfold aggV at h
  split at h
  · rename_i hA
    split at h
    · rename_i φ1 b hb
      have hq : eqOk P t = true ∧ All φ1 := by
        split at h
        · simp only [Option.some.injEq, Prod.mk.injEq] at h
          obtain ⟨rfl, _⟩ := h
          exact ⟨hφ _ (List.mem_cons_self ..), fun p hp => hφ p (List.mem_cons_of_mem _ hp)⟩
        · simp only [Option.some.injEq, Prod.mk.injEq] at h
          obtain ⟨rfl, _⟩ := h
          exact ⟨hφ _ (List.mem_cons_self ..), fun p hp => hφ p (List.mem_cons_of_mem _ hp)⟩
        · cases h
      have he := hq.1
      simp only [eqOk, Bool.and_eq_true, Bool.not_eq_true'] at he
      have hrun : ∀ w', (Op.equalIn 10000 t (.agg cx.toArray) (.agg cy.toArray)).run P w' = .ok b w' := fun w' =>
        eqT_run (by decide) hb hq.2 hm hn (by unfold ValT; rw [hA]) (by unfold ValT; rw [hA]) w'
      split at h <;> simp at h <;> obtain ⟨_, rfl⟩ := h
      · refine ⟨_, .bool _, fun w' o ho => ?_⟩
        unfold execOp
        simp only [ho, hx, hy, Sem.run_bind, run_eqGuard_agg w' .eql t x y _ _ he.1, Result.andThen_ok, run_eql_struct, hrun, Sem.run_pure]
      · refine ⟨_, .bool _, fun w' o ho => ?_⟩
        unfold execOp
        simp only [ho, hx, hy, Sem.run_bind, run_eqGuard_agg w' .neq t x y _ _ he.1, Result.andThen_ok, run_neq_struct, hrun, Sem.run_pure]
    · cases h
  · cases h
theorem run_equalIn_nil {w0 : World} (w : World) (d : Nat) {t : TypeId} {m n : SV} {vx vy : Value} {b : Bool} (hb : nilB (P.underlying t) m n = some b) (hm : Rep E T w0 m vx) (hn : Rep E T w0 n vy) : (Op.equalIn (d + 1) t vx vy).run P w = .ok b w := by
  unfold nilB at hb
  split at hb
  all_goals first | (cases hb; done) | skip
  all_goals (rename_i hu; split at hb)
  all_goals first | (cases hb; done) | skip
  all_goals (simp only [Option.some.injEq] at hb; subst hb; cases hm <;> cases hn)
  all_goals
    unfold Op.equalIn
    simp only [Sem.run_bind, run_underlying hu, Result.andThen_ok]
    rfl
theorem nilV_run {op : BinOp} {t t' : TypeId} {x y : Operand} {vx vy : Value} {m n r : SV} {φ : List Prop} (h : nilV P op t m n = some (φ, r)) (hm : Rep E T w m vx) (hn : Rep E T w n vy) (hx : a.eval x = vx) (hy : a.eval y = vy) :
    ∃ u, Rep E T w r u ∧ ∀ (w' : World) (o : Oper), o.op = .binOp op t x y t' → (execOp a.eval o).run P w' = .ok (.value u) w' := by
  unfold nilV at h
  split at h
  · rename_i b hb
    have k1 : ∀ w' : World, (Op.equal t vx vy).run P w' = .ok b w' := fun w' => run_equalIn_nil w' _ hb hm hn
    have key : (∀ w' : World, (eqGuard op t x y vx vy).run P w' = .ok () w') ∧ (∀ w' : World, (binOp .eql t vx vy).run P w' = ((do pure (.bool (← Op.equal t vx vy)) : Sem Value)).run P w') ∧ ∀ w' : World, (binOp .neq t vx vy).run P w' = ((do pure (.bool (!(← Op.equal t vx vy))) : Sem Value)).run P w' := by
      unfold nilB at hb
      split at hb
      all_goals first | (cases hb; done) | skip
      all_goals (rename_i hu; split at hb)
      all_goals first | (cases hb; done) | skip
      all_goals (simp only [Option.some.injEq] at hb; subst hb; cases hm <;> cases hn)
      all_goals
        refine ⟨fun w' => ?_, fun w' => rfl, fun w' => rfl⟩
        unfold eqGuard
        split <;> rfl
    obtain ⟨k2, k3, k4⟩ := key
    split at h
    · simp only [Option.some.injEq, Prod.mk.injEq] at h
      obtain ⟨_, rfl⟩ := h
      refine ⟨_, .bool b, fun w' o ho => ?_⟩
      unfold execOp
      simp only [ho, hx, hy, Sem.run_bind, k2, Result.andThen_ok, k3, k1, Sem.run_pure]
    · simp only [Option.some.injEq, Prod.mk.injEq] at h
      obtain ⟨_, rfl⟩ := h
      refine ⟨_, .bool (!b), fun w' o ho => ?_⟩
      unfold execOp
      simp only [ho, hx, hy, Sem.run_bind, k2, Result.andThen_ok, k4, k1, Sem.run_pure]
    · cases h
  · cases h
theorem binV_run {X : IntKind → Bool} {op : BinOp} {t t' : TypeId} {x y : Operand} {m n r : SV} {φ : List Prop} (h : binV X P op t m n = some (φ, r)) (hφ : All φ) (hm : Rep E T w m (a.eval x)) (hn : Rep E T w n (a.eval y)) :
    ∃ u, Rep E T w r u ∧ ∀ (w' : World) (o : Oper), o.op = .binOp op t x y t' → (execOp a.eval o).run P w' = .ok (.value u) w' := by
  generalize hx : a.eval x = vx at hm
  generalize hy : a.eval y = vy at hn
  unfold binV at h
  split at h
  · rename_i k1 n1 k2 n2
    cases hm with
    | int _ _ r1 =>
      cases hn with
      | int _ _ r2 =>
        have fin : (∃ u, Rep E T w r u ∧ ∀ w', (binOp op t (.int k1 n1) (.int k2 n2)).run P w' = .ok u w') → ∃ u, Rep E T w r u ∧ ∀ (w' : World) (o : Oper), o.op = .binOp op t x y t' → (execOp a.eval o).run P w' = .ok (.value u) w' := by
          rintro ⟨u, h1, h2⟩
          refine ⟨u, h1, fun w' o ho => ?_⟩
          unfold execOp
          simp only [ho, hx, hy, Sem.run_bind, run_eqGuard_int, Result.andThen_ok, h2, Sem.run_pure]
        apply fin
        split at h
        · exact shiftV_run h hφ r1
        · rename_i hsh
          split at h
          · rename_i hk
            have := kindB_eq hk
            subst this
            exact intV_run hsh h hφ r1
          · cases h
  · cases hm with
    | str _ r1 =>
      cases hn with
      | str _ r2 =>
        obtain ⟨u, h1, h2⟩ := strV_run (P := P) (t := t) h hφ
        refine ⟨u, h1, fun w' o ho => ?_⟩
        unfold execOp
        simp only [ho, hx, hy, Sem.run_bind, run_eqGuard_str, Result.andThen_ok, h2, Sem.run_pure]
  · split at h
    · rename_i hu
      cases hm with
      | bool b1 =>
        cases hn with
        | bool b2 =>
          unfold boolV at h
          split at h <;> simp at h <;> obtain ⟨_, rfl⟩ := h
          · refine ⟨_, .bool _, fun w' o ho => ?_⟩
            unfold execOp
            simp [ho, hx, hy, run_eqGuard_bool, binOp, Op.equal, Op.maxDepth, run_equalIn_bool' _ _ _ _ _ hu]
          · refine ⟨_, .bool _, fun w' o ho => ?_⟩
            unfold execOp
            simp [ho, hx, hy, run_eqGuard_bool, binOp, Op.equal, Op.maxDepth, run_equalIn_bool' _ _ _ _ _ hu, bne]
    · cases h
  · cases hm with
    | agg _ cx h1 =>
      cases hn with
      | agg _ cy h2 => exact aggV_run h hφ h1 h2 hx hy
  · exact aggV_run h hφ (hm.items rfl) (hn.items rfl) (agg_cells hm hx) (agg_cells hn hy)
  · exact aggV_run h hφ (hm.items rfl) (hn.items rfl) (agg_cells' hm hx) (agg_cells hn hy)
  · exact aggV_run h hφ (hm.items rfl) (hn.items rfl) (agg_cells hm hx) (agg_cells' hn hy)
  · exact nilV_run h hm hn hx hy
end
end Go.Proofs.YtpbgihhfcdggkaaGreatDoor.V
end
section
namespace Go.Proofs.YtpbgihhfcdggkaaGreatDoor.V
open Go.RowKit
section
variable {P : Program} {Γ : Glob} {F : Tr} {M : Mem} {E : Env} {a : Act} {w : World} {T : Nat → Prop}
theorem seg_eq {c cs : List Value} {o : Nat} (hseg : ∀ (j : Nat) (v : Value), c[j]? = some v → cs[o + j]? = some v) {off n : Nat} (h : off + n ≤ c.length) : (cs.drop (o + off)).take n = (c.drop off).take n := by
  apply List.ext_getElem?
  intro j
  simp only [List.getElem?_take, List.getElem?_drop]
  split
  · rename_i hj
    have hlt : off + j < c.length := by omega
    have := hseg (off + j) _ (List.getElem?_eq_getElem hlt)
    rw [List.getElem?_eq_getElem hlt, Nat.add_assoc]
    exact this
  · rfl
theorem see_part_at {t off o : Nat} {l : List SV} {c cs : List Value} {s : SV} (hI : Items E T w l c) (hs : seeI P t l off = some s) (hseg : ∀ (j : Nat) (v : Value), c[j]? = some v → cs[o + j]? = some v) :
    ∃ u, Rep E T w s u ∧ ∀ w' : World, (part t cs.toArray (o + off)).run P w' = .ok u w' := by
  unfold seeI at hs
  split at hs
  · rename_i bb hA
    split at hs
    · rename_i n hn
      split at hs
      · rename_i r hr
        obtain ⟨hle, hI'⟩ := hI.cut hr
        rw [← seg_eq hseg hle] at hI'
        obtain ⟨h1, h2⟩ := ofItems_rep hI' hs
        cases bb with
        | true =>
          refine ⟨_, h1 rfl, fun w' => ?_⟩
          simp only [part, Sem.run_bind, run_isAgg hA, Result.andThen_ok, if_true, run_sizeOf hn, Sem.run_pure]
          congr 2
          apply Array.ext'
          simp [List.take_drop]
        | false =>
          obtain ⟨x, hc1, hrep⟩ := h2 rfl
          refine ⟨x, hrep, fun w' => ?_⟩
          have h0 : cs[o + off]? = some x := by
            have : ((cs.drop (o + off)).take n)[0]? = some x := by rw [hc1]; rfl
            rw [List.getElem?_take] at this
            split at this
            · rw [List.getElem?_drop] at this; simpa using this
            · cases this
          simp [part, run_isAgg hA, h0]
      · cases hs
    · cases hs
  · cases hs
theorem see_part {t off : Nat} {l : List SV} {cs : List Value} {s : SV} (hI : Items E T w l cs) (hs : seeI P t l off = some s) :
    ∃ u, Rep E T w s u ∧ ∀ w' : World, (part t cs.toArray off).run P w' = .ok u w' := by
  have := see_part_at (P := P) (o := 0) (cs := cs) hI hs (fun j v h => by simpa using h)
  simpa using this
theorem indexV_run {t : TypeId} {k : IntKind} {n : Int} {x r : SV} {v : Value} {φ : List Prop} (h : indexV P t n x = some (φ, r)) (hφ : All φ) (hx : Rep E T w x v) :
    ∃ u, Rep E T w r u ∧ ∀ w', (Instr.index t v (.int k n)).run P w' = .ok u w' := by
  unfold indexV at h
  split at h
  · rename_i l
    split at h
    · rename_i hu
      simp at h
      obtain ⟨rfl, rfl⟩ := h
      obtain ⟨h0, h1⟩ := hφ.one
      cases hx with
      | str _ ok =>
        refine ⟨_, .int _ _ (inR_u8 _), fun w' => ?_⟩
        have hlt : n.toNat < l.length := by omega
        have hget : (ByteArray.mk l.toArray)[n.toNat]? = some (l.getD n.toNat 0) := by
          have : n.toNat < (ByteArray.mk l.toArray).size := by simpa [ByteArray.size] using hlt
          rw [getElem?_pos (ByteArray.mk l.toArray) n.toNat this]
          simp only [List.getD_eq_getElem?_getD, List.getElem?_eq_getElem hlt, Option.getD_some]
          rfl
        simp [Instr.index, asIntOf, run_underlying hu, h0, hget]
    · cases h
  · rename_i m' e
    split at h
    · rename_i m elem hu
      split at h
      · rename_i s hsz
        split at h
        · rename_i hes
          have hes' := Nat.eq_of_beq_eq_true hes
          obtain ⟨rfl, h'⟩ := withφ_inv h
          have h0 := hφ _ (List.mem_cons_self ..)
          have h2 : m = e.len := hφ _ (List.mem_cons_of_mem _ (List.mem_cons_self ..))
          cases hx with
          | arr _ _ cs c hn hl he h1 hc hr =>
            have hi : n.toNat < e.len := by omega
            obtain ⟨u, hu1, hu2⟩ := see_part_at (P := P) (o := n.toNat * e.sz) (cs := cs) (hr _ hi) h' (fun j v hj => hc _ j v hi hj)
            refine ⟨u, hu1, fun w' => ?_⟩
            simp only [Instr.index, asIntOf, Sem.run_bind, Sem.run_pure, Result.andThen_ok, run_underlying hu]
            rw [if_pos h0]
            have := hu2 w'
            rw [Nat.add_zero, hes'] at this
            simp only [Sem.run_bind, run_sizeOf hsz, Result.andThen_ok, this]
        · cases h
      · cases h
    · cases h
  · rename_i l
    split at h
    · rename_i m elem hu
      split at h
      · rename_i s hsz
        obtain ⟨rfl, h'⟩ := withφ_inv h
        have h0 := hφ.one
        cases hx with
        | agg _ cs hI =>
          obtain ⟨u, hu1, hu2⟩ := see_part (P := P) hI h'
          refine ⟨u, hu1, fun w' => ?_⟩
          simp only [Instr.index, asIntOf, Sem.run_bind, Sem.run_pure, Result.andThen_ok, run_underlying hu]
          rw [if_pos h0]
          simp only [Sem.run_bind, run_sizeOf hsz, Result.andThen_ok, hu2]
      · cases h
    · cases h
  · cases h
theorem fieldV_run {t : TypeId} {f : Nat} {x r : SV} {v : Value} {φ : List Prop} (h : fieldV P t f x = some (φ, r)) (hx : Rep E T w x v) :
    ∃ u, Rep E T w r u ∧ ∀ w', (Instr.field t v f).run P w' = .ok u w' := by
  unfold fieldV at h
  split at h
  · rename_i fs hu
    split at h
    · rename_i nm ft off e tg pk bo hf
      split at h
      · obtain ⟨rfl, h'⟩ := withφ_inv h
        cases hx with
        | agg _ cs hI =>
          obtain ⟨u, hu1, hu2⟩ := see_part (P := P) hI h'
          refine ⟨u, hu1, fun w' => ?_⟩
          have hfa : fs[f]? = some ⟨nm, ft, off, e, tg, pk, bo⟩ := by simpa using hf
          simp [Instr.field, run_underlying hu, hfa, asAgg, hu2]
      · cases h
    · cases h
  · cases h
theorem unV_run {X : IntKind → Bool} {op : UnOp} {x r : SV} {v : Value} {φ : List Prop} (h : unV X op x = some (φ, r)) (hφ : All φ) (hx : Rep E T w x v) :
    ∃ u, Rep E T w r u ∧ ∀ w', (Op.unary op v).run P w' = .ok u w' := by
  unfold unV at h
  split at h
  · simp at h; obtain ⟨rfl, rfl⟩ := h
    cases hx with
    | bool b => exact ⟨_, .bool _, fun w' => by simp [Op.unary]⟩
  · cases hx with
    | int k n hr =>
      split at h <;> simp at h <;> obtain ⟨rfl, rfl⟩ := h
      · have hr' := hφ.one
        exact ⟨_, .int _ _ hr', fun w' => by have e := wrap_inR hr'; simp only [Op.unary, Op.intArith, Int.zero_sub, e, Sem.run_pure]⟩
      · exact ⟨_, .int _ _ (inR_wrap _ _), fun w' => by simp only [Op.unary, Op.intArith, Int.zero_sub, Sem.run_pure]⟩
  · simp at h; obtain ⟨rfl, rfl⟩ := h
    cases hx with
    | int k n hr => exact ⟨_, .int _ _ (inR_wrap _ _), fun w' => by simp [Op.unary, Op.intBits]⟩
  · cases h
end
end Go.Proofs.YtpbgihhfcdggkaaGreatDoor.V
end
section
namespace Go.Proofs.YtpbgihhfcdggkaaGreatDoor.V
open Go.RowKit
section
variable {P : Program} {Γ : Glob} {F : Tr} {M : Mem} {E : Env} {a : Act} {w : World} {T : Nat → Prop}
theorem foldl_push (l : List UInt8) : ∀ s : ByteArray, (l.map fun x => (x.toNat : Int)).foldl (fun r n => r.push (UInt8.ofNat n.toNat)) s = ⟨s.data ++ l.toArray⟩ := by
  induction l with
  | nil => intro s; simp
  | cons x l ih =>
    intro s
    simp only [List.map_cons, List.foldl_cons, ih]
    congr 1
    simp [ByteArray.push]
theorem run_bytesToString_list (b o : Nat) (l : List UInt8) (n k : Nat) (hn : n = l.length) (w : World) (h : ∀ i, i < l.length → w.cell? ⟨b, o + i, none⟩ = some (.int .u8 ((l.getD i 0).toNat : Int))) :
    (Conv.bytesToString (.slice (some ⟨b, o, none⟩) n k)).run P w = .ok (.string ⟨l.toArray⟩) w := by
  subst hn
  have hl := run_loadCells_list (P := P) (w := w) ⟨b, o, none⟩ ((l.map fun x => (x.toNat : Int)).map (Value.int .u8)) (fun j v hj => by
    rw [Addr.add_mk]
    have hlt : j < l.length := by simpa using (List.getElem?_eq_some_iff.1 hj).1
    rw [h j hlt]
    simp only [List.getElem?_map, List.getElem?_eq_getElem hlt, Option.map_some, Option.some.injEq] at hj
    rw [← hj]
    simp [List.getD, List.getElem?_eq_getElem hlt])
  have := run_bytesToString (P := P) w ⟨b, o, none⟩ l.length k (l.map fun x => (x.toNat : Int)) (by simpa using hl)
  rw [this, foldl_push]
  congr 3
  simp
theorem u8_cells {e : List UInt8} {c : Nat → List Value} (hr : ∀ i, i < e.length → Items E T w ((EV.u8 e).items i) (c i)) : ∀ i, i < e.length → c i = [.int .u8 ((e.getD i 0).toNat : Int)] := fun i hi => by
  have h := hr i hi
  simp only [EV.items] at h
  obtain ⟨x, r, h1, h2, h3⟩ := h.head rfl
  cases h2
  cases h3
  exact h1
theorem getD_slice (l : List UInt8) (a n i : Nat) (h : i < n) : ((l.drop a).take n).getD i 0 = l.getD (a + i) 0 := by
  simp [List.getD, List.getElem?_drop, h]
theorem run_conv_int {s d : TypeId} {k k' : IntKind} {n : Int} {x : TypeDesc} (hs : P.underlying s = some x) (hd : P.underlying d = some (.int k')) (w' : World) : (convert s d (.int k n)).run P w' = .ok (.int k' (k'.wrap n)) w' := by
  unfold convert
  simp only [Sem.run_bind, run_underlying hs, run_underlying hd, Result.andThen_ok]
  cases x <;> simp [Conv.intToInt]
theorem run_conv_bytes {s d e : TypeId} {x : Value} (hs : P.underlying s = some (.slice e)) (he : P.underlying e = some (.int .u8)) (hd : P.underlying d = some .string) {o : Option Addr} {n k : Nat} (hx : x = .slice o n k) (w' : World) :
    (convert s d x).run P w' = (Conv.bytesToString x).run P w' := by
  subst hx
  exact run_convert_bytes_string w' s d e o n k hs he hd
theorem okLen_le {n m : Nat} (h : n ≤ m) (hm : okLen m) : okLen n := by unfold okLen at *; omega
theorem convV_run (H : MOk E T M w) {X : IntKind → Bool} {s d : TypeId} {x r : SV} {v : Value} {φ : List Prop} (h : convV X P M s d x = some (φ, r)) (hφ : All φ) (hx : Rep E T w x v) :
    ∃ u, Rep E T w r u ∧ ∀ w', Below w.heap.size w w' → (convert s d v).run P w' = .ok u w' := by
  unfold convV at h
  split at h
  · rename_i k n
    cases hx with
    | int _ _ hr =>
      split at h
      · rename_i x k' hs hd
        split at h
        · rename_i hw
          simp at h; obtain ⟨rfl, rfl⟩ := h
          have hr' := inR_wider hw hr
          exact ⟨_, .int _ _ hr', fun w' _ => by rw [run_conv_int hs hd, wrap_inR hr']⟩
        · split at h <;> simp at h <;> obtain ⟨rfl, rfl⟩ := h
          · have hr' := hφ.one
            exact ⟨_, .int _ _ hr', fun w' _ => by rw [run_conv_int hs hd, wrap_inR hr']⟩
          · exact ⟨_, .int _ _ (inR_wrap _ _), fun w' _ => by rw [run_conv_int hs hd]⟩
      · cases h
  · rename_i l
    cases hx with
    | str _ ok =>
      split at h
      · rename_i x hs hd
        simp at h; obtain ⟨rfl, rfl⟩ := h
        refine ⟨_, .str _ ok, fun w' _ => ?_⟩
        unfold convert
        simp only [Sem.run_bind, run_underlying hs, run_underlying hd, Result.andThen_ok]
        cases x <;> simp
      · cases h
  · rename_i l
    split at h
    · rename_i e hs hd
      split at h
      · rename_i he
        simp at h; obtain ⟨rfl, rfl⟩ := h
        cases hx with
        | ro0 _ h0 =>
          have : l = [] := List.eq_nil_of_length_eq_zero (by simpa [EV.len] using h0)
          subst this
          refine ⟨_, .str [] (by simp [okLen]), fun w' _ => ?_⟩
          rw [run_conv_bytes hs he hd rfl]
          rfl
        | ro1 _ a0 h0 =>
          have : l = [] := List.eq_nil_of_length_eq_zero (by simpa [EV.len] using h0)
          subst this
          refine ⟨_, .str [] (by simp [okLen]), fun w' _ => ?_⟩
          rw [run_conv_bytes hs he hd rfl]
          have hl := run_loadCells_list (P := P) (w := w') a0 [] (fun j v hj => by simp at hj)
          have := run_bytesToString (P := P) w' a0 0 0 [] (by simpa using hl)
          rw [this]
          rfl
        | ro _ b o n k c hT hn hc hr hle hl ok hb =>
          have hcs := u8_cells hr
          refine ⟨_, .str l (okLen_le (by simpa [hle, EV.len] using hl) ok), fun w' hw => ?_⟩
          rw [run_conv_bytes hs he hd rfl]
          refine run_bytesToString_list b o l n k (by simpa [EV.len] using hle) w' fun i hi => below_cell hw ?_
          have := hc i 0 _ hi (by rw [hcs i hi]; rfl)
          simpa [EV.sz] using this
      · cases h
    · cases h
  · split at h
    · rename_i e hs hd
      split at h
      · rename_i he
        simp at h; obtain ⟨rfl, rfl⟩ := h
        cases hx
        refine ⟨_, .str [] (by simp [okLen]), fun w' _ => ?_⟩
        rw [run_conv_bytes hs he hd rfl]
        rfl
      · cases h
    · cases h
  · rename_i id base sz sub len
    split at h
    · rename_i e hs hd
      split at h
      · rename_i he
        split at h
        · rename_i l hrun
          split at h
          · rename_i hsz
            have := Nat.eq_of_beq_eq_true hsz
            subst this
            simp at h; obtain ⟨rfl, rfl⟩ := h
            have h0 : sub + len ≤ l.length := hφ _ (List.mem_cons_self ..)
            have hok : okLen len := hφ _ (List.mem_cons_of_mem _ (List.mem_cons_self ..))
            have hlen : ((l.drop sub).take len).length = len := by simp; omega
            cases hx with
            | row0 _ _ _ _ _ hE h0 =>
              subst h0
              refine ⟨_, .str _ (by rw [hlen]; exact hok), fun w' hw => ?_⟩
              rw [run_conv_bytes hs he hd rfl]
              simp [Conv.bytesToString]
              rfl
            | row _ _ _ _ _ b' o k n t hE hsh ho hl ok =>
              obtain ⟨c, hlt, hn, hc, hr⟩ := runAt_cells H hrun hE
              have hcs := u8_cells hr
              refine ⟨_, .str _ (by rw [hlen]; exact hok), fun w' hw => ?_⟩
              rw [run_conv_bytes hs he hd rfl]
              refine run_bytesToString_list b' o _ len k hlen.symm w' fun i hi => below_cell hw ?_
              rw [hlen] at hi
              obtain ⟨ho1, _⟩ := ho (by omega)
              have hi2 : sub + i < (EV.u8 l).len := by simp [EV.len]; omega
              have := hc (sub + i) 0 _ hi2 (by rw [hcs _ hi2]; rfl)
              rw [getD_slice l sub len i hi, ho1]
              simpa [EV.sz, Nat.add_assoc] using this
          · cases h
        · cases h
      · cases h
    · cases h
  · cases h
theorem lenV_run {t ty : TypeId} {x r : SV} {v : Value} {φ : List Prop} (h : lenV P t x = some (φ, r)) (hx : Rep E T w x v) :
    ∃ u, Rep E T w r u ∧ ∀ w', (Builtin.len_ #[t] ty #[v]).run P w' = .ok u w' := by
  unfold lenV at h
  split at h
  · rename_i hu
    simp at h; obtain ⟨rfl, rfl⟩ := h
    rename_i l
    cases hx with
    | str _ ok =>
      have hz : (ByteArray.mk l.toArray).size = l.length := by simp [ByteArray.size]
      exact ⟨_, .int _ _ (inR_nat ok), fun w' => by unfold Builtin.len_; simp [run_underlying hu, goInt, hz]⟩
  · rename_i hu
    simp at h; obtain ⟨rfl, rfl⟩ := h
    cases hx with
    | ro0 _ h0 => exact ⟨_, .int _ _ (inR_nat (by simp [h0, okLen])), fun w' => by simp [Builtin.len_, run_underlying hu, goInt, h0]⟩
    | ro1 _ _ h0 => exact ⟨_, .int _ _ (inR_nat (by simp [h0, okLen])), fun w' => by simp [Builtin.len_, run_underlying hu, goInt, h0]⟩
    | ro _ b o n k c hT hn hc hr he hl ok hb => exact ⟨_, .int _ _ (inR_nat (okLen_le (he ▸ hl) ok)), fun w' => by simp [Builtin.len_, run_underlying hu, goInt, he]⟩
  · rename_i hu
    simp at h; obtain ⟨rfl, rfl⟩ := h
    cases hx with
    | row0 _ _ _ _ _ _ h0 => exact ⟨_, .int _ _ (inR_nat (by simp [h0, okLen])), fun w' => by simp [Builtin.len_, run_underlying hu, goInt, h0]⟩
    | row _ _ _ _ _ b o k n t hE hs ho hl ok => exact ⟨_, .int _ _ (inR_nat (okLen_le hl ok)), fun w' => by simp [Builtin.len_, run_underlying hu, goInt]⟩
  · rename_i hu
    simp at h; obtain ⟨rfl, rfl⟩ := h
    cases hx
    exact ⟨_, .int _ _ (by simpa using inR_nat (n := 0) (by simp [okLen])), fun w' => by simp [Builtin.len_, run_underlying hu, goInt]⟩
  · rename_i n e _ hu
    split at h
    · rename_i hn
      simp at h; obtain ⟨rfl, rfl⟩ := h
      exact ⟨_, .int _ _ (inR_nat (Nat.le_of_ble_eq_true hn)), fun w' => by unfold Builtin.len_; simp [run_underlying hu, goInt]⟩
    · cases h
  · cases h
theorem inR_max {k : IntKind} {a b : Int} (ha : inR k a) (hb : inR k b) : inR k (maxV a b) := by unfold maxV; split <;> assumption
theorem inR_min {k : IntKind} {a b : Int} (ha : inR k a) (hb : inR k b) : inR k (minV a b) := by unfold minV; split <;> assumption
theorem EV.sub_len {e : EV} {x n : Nat} (h : x + n ≤ e.len) : (e.sub x n).len = n := by
  cases e <;> simp [EV.sub, EV.len] at h ⊢ <;> omega
theorem EV.sub_sz (e : EV) (x n : Nat) : (e.sub x n).sz = e.sz := by cases e <;> rfl
theorem EV.sub_items {e : EV} {x n i : Nat} (h : i < n) : (e.sub x n).items i = e.items (x + i) := by
  cases e with
  | u8 l => simp only [EV.sub, EV.items, getD_slice l x n i h]
  | ints k l => simp [EV.sub, EV.items, List.getD, List.getElem?_drop, h]
  | g m sz f => rfl
theorem ro_slice {e : EV} {b o n k : Nat} {lo hi : Nat} {c : Nat → List Value} (hT : ¬ T b) (hn : ∀ i, i < e.len → (c i).length = e.sz)
    (hc : ∀ i j v, i < e.len → (c i)[j]? = some v → w.cell? ⟨b, o + i * e.sz + j, none⟩ = some v)
    (hr : ∀ i, i < e.len → Items E T w (e.items i) (c i)) (_he : n = e.len) (hl : n ≤ k) (ok : okLen k) (hb : b < w.heap.size) (h1 : lo ≤ hi) (h2 : hi ≤ e.len) :
    Rep E T w (.ro (e.sub lo (hi - lo))) (.slice (some (if k = lo then ⟨b, o, none⟩ else ⟨b, o + lo * e.sz, none⟩)) (hi - lo) (k - lo)) := by
  have hlen : (e.sub lo (hi - lo)).len = hi - lo := EV.sub_len (by omega)
  by_cases hk : k = lo
  · rw [if_pos hk]
    have h0 : hi - lo = 0 := by omega
    refine .ro _ b o _ _ (fun _ => []) hT (fun i hi => ?_) (fun i j v hi => ?_) (fun i hi => ?_) hlen.symm (by omega) (okLen_le (Nat.sub_le ..) ok) hb <;> omega
  · rw [if_neg hk]
    refine .ro _ b _ _ _ (fun i => c (lo + i)) hT (fun i hi => ?_) (fun i j v hi hj => ?_) (fun i hi => ?_) hlen.symm (by omega) (okLen_le (Nat.sub_le ..) ok) hb
    · rw [EV.sub_sz]; exact hn _ (by omega)
    · rw [EV.sub_sz]
      have := hc (lo + i) j v (by omega) hj
      rw [Nat.add_mul] at this
      simpa [Nat.add_assoc] using this
    · rw [EV.sub_items (by omega)]
      exact hr _ (by omega)
theorem run_bounds_slice (isS : Bool) (len cap : Nat) (lo hi : Option (IntKind × Nat)) (h1 : (lo.map (·.2)).getD 0 ≤ (hi.map (·.2)).getD len) (h2 : (hi.map (·.2)).getD len ≤ len) (h3 : len ≤ cap) (w' : World) :
    (Instr.sliceBounds isS len cap (lo.map fun x => .int x.1 (x.2 : Int)) (hi.map fun x => .int x.1 (x.2 : Int)) none).run P w' = .ok ((lo.map (·.2)).getD 0, (hi.map (·.2)).getD len, cap) w' := by
  cases hi with
  | none =>
    cases lo with
    | none => simp [Instr.sliceBounds]
    | some l =>
      simp at h1
      simp [Instr.sliceBounds, Instr.sliceBound, asIntOf, h1]
  | some h =>
    simp at h2
    cases lo with
    | none =>
      have : h.2 ≤ cap := by omega
      simp [Instr.sliceBounds, Instr.sliceBound, asIntOf, this]
    | some l =>
      simp at h1
      have : h.2 ≤ cap := by omega
      simp [Instr.sliceBounds, Instr.sliceBound, asIntOf, this, h1]
theorem sliceV_run (H : MOk E T M w) {t : TypeId} {lo hi : Option (IntKind × Nat)} {x r : SV} {v : Value} {φ0 φ : List Prop} (h : sliceV P M t (lo.map (·.2)) (hi.map (·.2)) φ0 x = some (φ, r)) (hφ : All φ) (hx : Rep E T w x v) :
    ∃ u, Rep E T w r u ∧ ∀ w', (Instr.sliceAt t v (lo.map fun x => .int x.1 (x.2 : Int)) (hi.map fun x => .int x.1 (x.2 : Int)) none).run P w' = .ok u w' := by
  unfold sliceV at h
  split at h
  · rename_i hu
    split at h
    · rename_i l
      simp only [Option.some.injEq, Prod.mk.injEq] at h; obtain ⟨rfl, rfl⟩ := h
      obtain ⟨h1, h2⟩ := hφ.app.2.one
      cases hx with
      | str _ ok =>
        refine ⟨_, .str _ (okLen_le (by simp; omega) ok), fun w' => ?_⟩
        have hsz : (ByteArray.mk l.toArray).size = l.length := by simp [ByteArray.size]
        have := run_bounds_slice (P := P) false l.length l.length lo hi h1 h2 (Nat.le_refl _) w'
        simp only [Instr.sliceAt, Sem.run_bind, run_underlying hu, Result.andThen_ok, Instr.slice, Option.isSome, Bool.false_eq_true, if_false, hsz, this, Sem.run_pure]
        congr 2
        apply ByteArray.ext
        apply Array.ext'
        simp [List.take_drop]
    · cases h
  · rename_i elem hu
    split at h
    · rename_i s hsz
      split at h
      · rename_i e
        split at h
        · rename_i hes
          have hes' := Nat.eq_of_beq_eq_true hes
          simp only [Option.some.injEq, Prod.mk.injEq] at h; obtain ⟨rfl, rfl⟩ := h
          obtain ⟨h1, h2⟩ := hφ.app.2.one
          cases hx with
          | ro0 _ h0 =>
            refine ⟨.slice none 0 0, .ro0 _ ?_, fun w' => ?_⟩
            · rw [EV.sub_len (by omega)]; omega
            · rw [h0] at h1 h2
              have := run_bounds_slice (P := P) true 0 0 lo hi (by omega) (by omega) (Nat.le_refl _) w'
              simp only [Instr.sliceAt, Sem.run_bind, run_underlying hu, Result.andThen_ok, Instr.slice, this, run_sizeOf hsz, Sem.run_pure]
              have e1 : (hi.map (·.2)).getD 0 = 0 := by omega
              have e2 : (lo.map (·.2)).getD 0 = 0 := by omega
              simp only [e1, e2]
              simp
          | ro1 _ a0 h0 =>
            refine ⟨.slice (some a0) 0 0, .ro1 _ _ ?_, fun w' => ?_⟩
            · rw [EV.sub_len (by omega)]; omega
            · rw [h0] at h1 h2
              have := run_bounds_slice (P := P) true 0 0 lo hi (by omega) (by omega) (Nat.le_refl _) w'
              simp only [Instr.sliceAt, Sem.run_bind, run_underlying hu, Result.andThen_ok, Instr.slice, this, run_sizeOf hsz, Sem.run_pure]
              have e1 : (hi.map (·.2)).getD 0 = 0 := by omega
              have e2 : (lo.map (·.2)).getD 0 = 0 := by omega
              simp only [e1, e2]
              simp
          | ro _ b o n k c hT hn hc hr he hl ok hb =>
            subst he
            refine ⟨_, ro_slice hT hn hc hr rfl hl ok hb h1 h2, fun w' => ?_⟩
            have := run_bounds_slice (P := P) true e.len k lo hi h1 h2 hl w'
            simp only [Instr.sliceAt, Sem.run_bind, run_underlying hu, Result.andThen_ok, Instr.slice, this, run_sizeOf hsz, Sem.run_pure]
            simp only [Option.map_some, Addr.add_mk, hes']
            split <;> rfl
        · cases h
      · rename_i id base sz sub len
        split at h
        · rename_i hes
          have hes' := Nat.eq_of_beq_eq_true hes
          subst hes'
          simp only [Option.some.injEq, Prod.mk.injEq] at h; obtain ⟨rfl, rfl⟩ := h
          obtain ⟨h1, h2⟩ := hφ.app.2.one
          cases hx with
          | row0 _ _ _ _ _ hE h0 =>
            subst h0
            refine ⟨.slice none 0 0, .row0 _ _ _ _ _ hE (by omega), fun w' => ?_⟩
            have := run_bounds_slice (P := P) true 0 0 lo hi h1 h2 (Nat.le_refl _) w'
            simp only [Instr.sliceAt, Sem.run_bind, run_underlying hu, Result.andThen_ok, Instr.slice, this, run_sizeOf hsz, Sem.run_pure]
            have e1 : (hi.map (·.2)).getD 0 = 0 := by omega
            have e2 : (lo.map (·.2)).getD 0 = 0 := by omega
            simp only [e1, e2]
            simp
          | row _ _ _ _ _ b o k n t' hE hs ho hl ok =>
            have hb := run_bounds_slice (P := P) true len k lo hi h1 h2 hl
            refine ⟨.slice (some (if k = (lo.map (·.2)).getD 0 then ⟨b, o, none⟩ else ⟨b, o + (lo.map (·.2)).getD 0 * (s + 1), none⟩)) ((hi.map (·.2)).getD len - (lo.map (·.2)).getD 0) (k - (lo.map (·.2)).getD 0), ?_, fun w' => ?_⟩
            · split
              · rename_i hk
                exact .row id base (s + 1) _ _ b o _ n t' hE hs (fun h => absurd (by omega) h) (by omega) (okLen_le (Nat.sub_le ..) ok)
              · rename_i hk
                refine .row id base (s + 1) _ _ b _ _ n t' hE hs (fun h => ?_) (by omega) (okLen_le (Nat.sub_le ..) ok)
                obtain ⟨ho1, ho2⟩ := ho (by omega)
                refine ⟨by rw [ho1, Nat.add_mul]; omega, ?_⟩
                rw [show sub + (lo.map (·.2)).getD 0 + (k - (lo.map (·.2)).getD 0) = sub + k by omega]
                exact ho2
            · simp only [Instr.sliceAt, Sem.run_bind, run_underlying hu, Result.andThen_ok, Instr.slice, hb, run_sizeOf hsz, Sem.run_pure]
              simp only [Option.map_some, Addr.add_mk]
              split <;> rfl
        · cases h
      · simp only [Option.some.injEq, Prod.mk.injEq] at h; obtain ⟨rfl, rfl⟩ := h
        obtain ⟨h1, h2⟩ := hφ.app.2.one
        cases hx
        refine ⟨.slice none 0 0, .nils, fun w' => ?_⟩
        have := run_bounds_slice (P := P) true 0 0 lo hi (by omega) (by omega) (Nat.le_refl _) w'
        simp only [Instr.sliceAt, Sem.run_bind, run_underlying hu, Result.andThen_ok, Instr.slice, this, run_sizeOf hsz, Sem.run_pure]
        simp only [h1, h2]
        simp
      · cases h
    · cases h
  · rename_i m elem hu
    split at h
    · rename_i s hsz
      split at h
      · rename_i id off
        split at h
        · rename_i e he
          split at h
          · rename_i hes
            simp only [Bool.and_eq_true] at hes
            have hes' := Nat.eq_of_beq_eq_true hes.1
            have hm := Nat.le_of_ble_eq_true hes.2
            simp only [Option.some.injEq, Prod.mk.injEq] at h; obtain ⟨rfl, rfl⟩ := h
            have h12 := hφ.app.2 _ (List.mem_cons_self ..)
            have h3 : m = e.len := hφ.app.2 _ (List.mem_cons_of_mem _ (List.mem_cons_self ..))
            obtain ⟨h1, h2⟩ := h12
            cases hx with
            | ptr _ _ b hE =>
              have hb := run_bounds_slice (P := P) false m m lo hi h1 h2 (Nat.le_refl _)
              have hsh : ∃ t' n, w.shape? b = some (t', n) ∧ off + m * (s + 1) ≤ n := by
                unfold runAt at he
                split at he
                · rename_i t' e' hf
                  split at he
                  · rename_i hz
                    have := Nat.eq_of_beq_eq_true hz
                    subst this
                    simp at he
                    subst he
                    obtain ⟨hlt, cs, c, hh, hle, _⟩ := H.at hf hE
                    exact ⟨t', cs.length, by simp [World.shape?, hh], by rw [h3, ← hes', Nat.zero_add]; exact hle⟩
                  · cases he
                · rename_i t' l hf
                  split at he
                  · rename_i n' e' rest hd
                    simp at he
                    subst he
                    obtain ⟨hlt, cs, hh, hI⟩ := H.at hf hE
                    obtain ⟨h4, h5⟩ := hI.drop_ hd
                    refine ⟨t', cs.length, by simp [World.shape?, hh], ?_⟩
                    generalize hds : cs.drop off = ds at h5
                    cases h5 with
                    | one _ _ _ _ h1 => simp [SV.one] at h1
                    | arr _ _ _ c1 cs' hr hl =>
                      have hl1 := hr.arr_len
                      generalize hv : Value.agg c1.toArray = v at hr
                      cases hr with
                      | arr _ _ cs2 c hn hl2 he h1 hc hr =>
                        have : (cs.drop off).length = c1.length + cs'.length := by rw [hds]; simp
                        simp at this
                        rw [h3, ← hes']
                        omega
                  · cases he
                · cases he
              obtain ⟨t', n, hsh, hle⟩ := hsh
              refine ⟨.slice (some (if m = (lo.map (·.2)).getD 0 then ⟨b, off, none⟩ else ⟨b, off + (lo.map (·.2)).getD 0 * (s + 1), none⟩)) ((hi.map (·.2)).getD m - (lo.map (·.2)).getD 0) (m - (lo.map (·.2)).getD 0), ?_, fun w' => ?_⟩
              · split
                · rename_i hk
                  exact .row id off (s + 1) _ _ b off _ n t' hE hsh (fun h => absurd (by omega) h) (by omega) (okLen_le (Nat.sub_le ..) hm)
                · rename_i hk
                  refine .row id off (s + 1) _ _ b _ _ n t' hE hsh (fun h => ⟨rfl, ?_⟩) (by omega) (okLen_le (Nat.sub_le ..) hm)
                  rw [show (lo.map (·.2)).getD 0 + (m - (lo.map (·.2)).getD 0) = m by omega]
                  exact hle
              · simp only [Instr.sliceAt, Sem.run_bind, run_underlying hu, Result.andThen_ok, Instr.sureAddr, hb, run_sizeOf hsz, Sem.run_pure]
                simp only [Addr.add_mk]
          · cases h
        · cases h
      · rename_i e i j
        split at h
        · rename_i n' e' rest hd
          split at h
          · rename_i hes
            simp only [Bool.and_eq_true] at hes
            have hes' := Nat.eq_of_beq_eq_true hes.1
            have hm := Nat.le_of_ble_eq_true hes.2
            simp only [Option.some.injEq, Prod.mk.injEq] at h; obtain ⟨rfl, rfl⟩ := h
            have h12 := hφ.app.2 _ (List.mem_cons_self ..)
            have h3 : m = e'.len := hφ.app.2 _ (List.mem_cons_of_mem _ (List.mem_cons_self ..))
            obtain ⟨h1, h2⟩ := h12
            cases hx with
            | rop _ _ _ b o c hT hn hc hr hi0 hj hb =>
              have hI := hr i hi0
              obtain ⟨h4, h5⟩ := hI.drop_ hd
              have hcc := hc i
              generalize hci : c i = ci at h4 h5 hcc
              generalize hds : ci.drop j = ds at h5
              cases h5 with
              | one _ _ _ _ h1 => simp [SV.one] at h1
              | arr _ _ _ c1 cs' hra hl =>
                generalize hv : Value.agg c1.toArray = v at hra
                cases hra with
                | arr _ _ cs2 c2 hn2 hl2 he2 h12 hc2 hr2 =>
                  simp at hv
                  subst hv
                  have hcell : ∀ i2 j2 v, i2 < e'.len → (c2 i2)[j2]? = some v → w.cell? ⟨b, (o + i * e.sz + j) + i2 * e'.sz + j2, none⟩ = some v := by
                    intro i2 j2 v h6 h7
                    have h8 := hc2 i2 j2 v h6 h7
                    have hlt : i2 * e'.sz + j2 < c1.length := (List.getElem?_eq_some_iff.1 h8).1
                    have h9 : ci[j + (i2 * e'.sz + j2)]? = some v := by
                      rw [← List.getElem?_drop, hds, List.getElem?_append_left hlt]
                      exact h8
                    have := hcc _ v hi0 h9
                    rwa [show o + i * e.sz + (j + (i2 * e'.sz + j2)) = o + i * e.sz + j + i2 * e'.sz + j2 by omega] at this
                  have hbd := run_bounds_slice (P := P) false m m lo hi h1 h2 (Nat.le_refl _)
                  refine ⟨_, ro_slice (k := m) hT hn2 hcell hr2 rfl (by omega) hm hb h1 (by omega), fun w' => ?_⟩
                  simp only [Instr.sliceAt, Sem.run_bind, run_underlying hu, Result.andThen_ok, Instr.sureAddr, hbd, run_sizeOf hsz, Sem.run_pure]
                  simp only [Addr.add_mk, hes']
          · cases h
        · cases h
      · cases h
    · cases h
  · cases h
end
end Go.Proofs.YtpbgihhfcdggkaaGreatDoor.V
end
section
namespace Go.Proofs.YtpbgihhfcdggkaaGreatDoor.V
open Go.RowKit
section
variable {P : Program} {Γ : Glob} {F : Tr} {M : Mem} {E : Env} {a : Act} {w : World} {T : Nat → Prop}
theorem allInt_eq {k : IntKind} : ∀ {cs : List Value}, allInt k cs = true → cs = List.replicate cs.length (.int k 0)
  | [], _ => rfl
  | v :: r, h => by
    unfold allInt at h
    split at h
    · rename_i h1; cases h1
    · rename_i k' r' h1
      cases h1
      split at h
      · rename_i hk
        have := kindB_eq hk
        subst this
        rw [List.length_cons, List.replicate_succ]
        congr 1
        exact allInt_eq h
      · cases h
    · cases h
theorem inR_zero (k : IntKind) : inR k 0 := by
  cases k <;> simp [inR, IntKind.min, IntKind.max, IntKind.signed, IntKind.bits]
theorem arr_zero (k : IntKind) (n : Nat) : Rep E T w (.arr n (.ints k (List.replicate n 0))) (.agg (List.replicate n (Value.int k 0)).toArray) := by
  refine .arr n _ _ (fun _ => [.int k 0]) (fun i _ => rfl) (by simp) (by simp [EV.len, EV.sz]) (fun v hv => by have := List.eq_of_mem_replicate hv; subst this; rfl) (fun i j v hi hj => ?_) (fun i hi => ?_)
  · simp [EV.len] at hi
    cases j with
    | zero => simp at hj; subst hj; simp [EV.sz, hi]
    | succ j => simp at hj
  · simp [EV.len] at hi
    simp only [EV.items]
    refine .one _ _ _ _ rfl ?_ .nil
    have : (List.replicate n (0 : Int)).getD i 0 = 0 := by simp [List.getD, hi]
    rw [this]
    exact .int _ _ (inR_zero k)
theorem arr_zero8 (n : Nat) : Rep E T w (.arr n (.u8 (List.replicate n 0))) (.agg (List.replicate n (Value.int .u8 0)).toArray) := by
  refine .arr n _ _ (fun _ => [.int .u8 0]) (fun i _ => rfl) (by simp) (by simp [EV.len, EV.sz]) (fun v hv => by have := List.eq_of_mem_replicate hv; subst this; rfl) (fun i j v hi hj => ?_) (fun i hi => ?_)
  · simp [EV.len] at hi
    cases j with
    | zero => simp at hj; subst hj; simp [EV.sz, hi]
    | succ j => simp at hj
  · simp [EV.len] at hi
    simp only [EV.items]
    refine .one _ _ _ _ rfl ?_ .nil
    have : (List.replicate n (0 : UInt8)).getD i 0 = 0 := by simp [List.getD, hi]
    rw [this]
    exact .int _ _ (inR_zero .u8)
theorem takeV_eq : ∀ {cs l : List Value} {n : Nat}, takeV cs n = some l → l = cs.take n
  | cs, l, 0, h => by cases cs <;> simp [takeV] at h <;> subst h <;> simp
  | [], l, n + 1, h => by simp [takeV] at h
  | c :: r, l, n + 1, h => by
    simp only [takeV] at h
    split at h
    · rename_i l' hl
      simp at h
      subst h
      simp [takeV_eq hl]
    · cases h
theorem dropV_eq : ∀ {cs l : List Value} {n : Nat}, dropV cs n = some l → l = cs.drop n
  | cs, l, 0, h => by cases cs <;> simp [dropV] at h <;> subst h <;> simp
  | [], l, n + 1, h => by simp [dropV] at h
  | c :: r, l, n + 1, h => by
    simp only [dropV] at h
    simp [dropV_eq h]
mutual
theorem zeroI_items : ∀ (d : Nat) {t : TypeId} {cs : List Value} {l : List SV}, zeroI P d t cs = some l → Items E T w l cs
  | 0, t, cs, l, h => by simp [zeroI] at h
  | d + 1, t, cs, l, h => by
    simp only [zeroI] at h
    split at h
    · exact zeroIs_items d h
    · rename_i n e _
      split at h
      · rename_i k _
        split at h
        · split at h
          · rename_i hb
            simp only [Bool.and_eq_true] at hb
            have hlen := Nat.eq_of_beq_eq_true hb.1
            have hcs := allInt_eq hb.2
            rw [hlen] at hcs
            rw [hcs]
            split at h
            · simp at h
              subst h
              have := Items.arr (E := E) (T := T) (w := w) n _ [] _ [] (arr_zero8 n) .nil
              simpa using this
            · rename_i k' _
              simp at h
              subst h
              have := Items.arr (E := E) (T := T) (w := w) n _ [] _ [] (arr_zero k n) .nil
              simpa using this
          · cases h
        · exact Items.ofCs h
      · exact Items.ofCs h
    · exact Items.ofCs h
    · cases h
theorem zeroIs_items : ∀ (d : Nat) {fs : List Field} {cs : List Value} {l : List SV}, zeroIs P d fs cs = some l → Items E T w l cs
  | 0, fs, cs, l, h => by simp [zeroIs] at h
  | d + 1, [], cs, l, h => by
    simp only [zeroIs] at h
    split at h
    · simp at h; subst h; exact .nil
    · cases h
  | d + 1, ⟨_, t, _, _, _, _, _⟩ :: fs, cs, l, h => by
    simp only [zeroIs] at h
    split at h
    · split at h
      · rename_i x hx
        split at h
        · rename_i y hy
          split at h
          · rename_i l1 h1
            split at h
            · rename_i l2 h2
              simp at h
              subst h
              have e1 := takeV_eq hx
              have e2 := dropV_eq hy
              have := (zeroI_items d h1).app (zeroIs_items d h2)
              rwa [e1, e2, List.take_append_drop] at this
            · cases h
          · cases h
        · cases h
      · cases h
    · cases h
end
theorem zeroC_info {t : TypeId} {cs : List Value} (h : zeroC P t = some cs) : ∃ i v, P.info? t = some i ∧ i.zero = some v ∧ v.cells = cs.toArray := by
  unfold zeroC at h
  split at h
  · rename_i i hi
    split at h
    · rename_i l hz
      simp at h
      subst h
      exact ⟨i, _, hi, hz, rfl⟩
    · rename_i v hne hz
      simp at h
      subst h
      refine ⟨i, v, hi, hz, ?_⟩
      cases v <;> first | rfl | (rename_i cs; exact (hne cs.toList rfl).elim)
    · cases h
  · cases h
theorem zeroOf_items {t : TypeId} {l : List SV} (h : zeroOf P t = some l) : ∃ i v, P.info? t = some i ∧ i.zero = some v ∧ Items E T w l v.cells.toList := by
  unfold zeroOf at h
  split at h
  · rename_i cs hc
    obtain ⟨i, v, h1, h2, h3⟩ := zeroC_info hc
    exact ⟨i, v, h1, h2, by rw [h3]; simpa using zeroI_items 200 h⟩
  · cases h
theorem foldl_set (off : Nat) : ∀ (vs : List Value) (k : Nat) (cs : Array Value), off + k + vs.length ≤ cs.size →
    ((vs.zipIdx k).foldl (fun (cs : Array Value) (p : Value × Nat) => cs.setIfInBounds (off + p.2) p.1) cs).toList = cs.toList.take (off + k) ++ vs ++ cs.toList.drop (off + k + vs.length)
  | [], k, cs, _ => by simp
  | v :: vs, k, cs, h => by
    simp only [List.zipIdx_cons, List.foldl_cons]
    rw [foldl_set off vs (k + 1) _ (by simp at h ⊢; omega)]
    have e := list_seg_step cs.toList (off + k) v vs (by simp at h ⊢; omega)
    simp only [Array.toList_setIfInBounds, ← Nat.add_assoc] at e ⊢
    simpa [Nat.add_assoc] using e
theorem placesF_eq : ∀ {fs : List Field} {l : List (Nat × Nat)}, placesF P fs = some l → fs.mapM (fun f => (P.info? f.type).map fun i => (f.offset, i.size)) = some l
  | [], l, h => by simp [placesF] at h; subst h; simp
  | f :: r, l, h => by
    simp only [placesF, sizeF] at h
    split at h
    · rename_i s hs
      split at h
      · rename_i l' hl
        simp at h
        subst h
        have ih := placesF_eq hl
        cases hi : P.info? f.type with
        | none => simp [hi] at hs
        | some i =>
          simp [hi] at hs
          subst hs
          simp [List.mapM_cons, hi, ih]
      · cases h
    · cases h
theorem nth_eq : ∀ (l : List (Nat × Nat)) (i : Nat), nth l i = l[i]?
  | [], i => by simp [nth]
  | x :: r, 0 => by simp [nth]
  | x :: r, n + 1 => by simp [nth, nth_eq r n]
def PartsOk (E : Env) (T : Nat → Prop) (w : World) : List (Nat × SV) → List (Nat × Value) → Prop
  | [], [] => True
  | (i, s) :: r, (j, v) :: q => i = j ∧ Rep E T w s v ∧ PartsOk E T w r q
  | _, _ => False
theorem partsF_ok (V : Vw Γ F M E T a w) : ∀ {l : List (Nat × Operand)} {r : List (Nat × SV)}, partsF Γ F l = some r → PartsOk E T w r (l.map fun p => (p.1, a.eval p.2))
  | [], r, h => by simp [partsF] at h; subst h; trivial
  | (i, x) :: l, r, h => by
    simp only [partsF] at h
    split at h
    · rename_i s hs
      split at h
      · cases h
      · split at h
        · rename_i l' hl
          simp at h
          subst h
          exact ⟨rfl, opd_rep V hs, partsF_ok V hl⟩
        · cases h
    · cases h
theorem partsC_ok (V : Vw Γ F M E T a w) : ∀ {l : List (Nat × Operand)} {φ : List Prop} {r : List (Nat × SV)}, partsC Γ F l = some (φ, r) → All φ → PartsOk E T w r (l.map fun p => (p.1, a.eval p.2))
  | [], φ, r, h, _ => by
    simp [partsC] at h
    obtain ⟨_, rfl⟩ := h
    trivial
  | (i, x) :: l, φ, r, h, hφ => by
    simp only [partsC] at h
    split at h
    · rename_i s hs
      split at h
      · split at h
        · rename_i ψ l' hl
          simp only [Option.some.injEq, Prod.mk.injEq] at h
          obtain ⟨rfl, rfl⟩ := h
          refine ⟨rfl, ?_, partsC_ok V hl fun p hp => hφ p (List.mem_cons_of_mem _ hp)⟩
          have := opd_rep V hs
          generalize a.eval x = v at this
          cases this with
          | may1 _ _ _ _ hr => exact hr
          | may0 _ _ hg => exact absurd (hφ _ (List.mem_cons_self ..)) hg
        · cases h
      · split at h
        · rename_i ψ l' hl
          simp only [Option.some.injEq, Prod.mk.injEq] at h
          obtain ⟨rfl, rfl⟩ := h
          exact ⟨rfl, opd_rep V hs, partsC_ok V hl hφ⟩
        · cases h
    · cases h
theorem wI_len : ∀ {l : List SV} {cs : List Value}, Items E T w l cs → wI l = cs.length
  | _, _, .nil => rfl
  | _, _, .one s c l cs h1 hr hl => by
    have := wI_len hl
    cases s <;> simp [wI, this] <;> first | omega | (simp [SV.one] at h1)
  | _, _, .arr n e l c1 cs hr hl => by
    have := wI_len hl
    simp [wI, this, hr.arr_len]
theorem fillI_run {place : Nat → Option (Nat × Nat)} : ∀ {ps : List (Nat × SV)} {vs : List (Nat × Value)} {l r : List SV} {cs : List Value}, fillI place l ps = some r → PartsOk E T w ps vs → Items E T w l cs →
    ∃ cs', Instr.fill place cs.toArray vs = some cs'.toArray ∧ Items E T w r cs'
  | [], [], l, r, cs, h, _, hI => by simp [fillI] at h; subst h; exact ⟨cs, by simp [Instr.fill], hI⟩
  | [], _ :: _, l, r, cs, h, hp, hI => hp.elim
  | (_, _) :: _, [], l, r, cs, h, hp, hI => hp.elim
  | (i, s) :: ps, (j, v) :: vs, l, r, cs, h, hp, hI => by
    obtain ⟨rfl, hs, hp'⟩ := hp
    simp only [fillI] at h
    split at h
    · rename_i off n hpl
      split at h
      · rename_i x hx
        split at h
        · rename_i hw
          split at h
          · rename_i l' hl
            have hIx := hs.items hx
            have hsz : v.cells.size = n := by
              have := wI_len hIx
              rw [Nat.eq_of_beq_eq_true hw] at this
              simpa using this.symm
            obtain ⟨hle, hI'⟩ := hI.paste hIx hl
            obtain ⟨cs', h1, h2⟩ := fillI_run h hp' hI'
            refine ⟨cs', ?_, h2⟩
            rw [← h1]
            simp only [Instr.fill, hpl]
            rw [if_neg (by simp [hsz]; omega)]
            congr 1
            apply Array.ext'
            rw [← Array.foldl_toList]
            have := foldl_set off v.cells.toList 0 cs.toArray (by simp [hsz]; omega)
            simp only [Nat.add_zero] at this
            simpa [hsz] using this
          · cases h
        · cases h
      · cases h
    · cases h
end
end Go.Proofs.YtpbgihhfcdggkaaGreatDoor.V
end
section
namespace Go.Proofs.YtpbgihhfcdggkaaGreatDoor.V
open Go.RowKit
section
variable {P : Program} {Γ : Glob} {F : Tr} {M : Mem} {E : Env} {a : Act} {w : World} {T : Nat → Prop}
theorem buildV_run {t : TypeId} {ps : List (Nat × SV)} {vs : List (Nat × Value)} {r : SV} (h : buildV P t ps = some r) (hp : PartsOk E T w ps vs) :
    ∃ u, Rep E T w r u ∧ ∀ w', (Instr.build t vs.toArray).run P w' = .ok u w' := by
  have key : (∃ cs : List Value, Rep E T w r (.agg cs.toArray) ∧ P.built t vs = some cs.toArray) → ∃ u, Rep E T w r u ∧ ∀ w', (Instr.build t vs.toArray).run P w' = .ok u w' := by
    rintro ⟨cs, h1, h2⟩
    exact ⟨_, h1, fun w' => run_build w' t vs.toArray cs.toArray (by simpa using h2)⟩
  apply key
  unfold buildV at h
  split at h
  · rename_i fs hu
    split at h
    · rename_i z hz
      split at h
      · rename_i pl hpl
        split at h
        · rename_i l hl
          simp at h
          subst h
          obtain ⟨i, v, hi, hiz, hI⟩ := zeroOf_items (E := E) (T := T) (w := w) hz
          obtain ⟨cs', h1, h2⟩ := fillI_run hl hp hI
          refine ⟨cs', .agg _ _ h2, ?_⟩
          unfold Program.built
          simp only [hi, hu, hiz, placesF_eq hpl]
          rw [show (fun x => pl.toArray[x]?) = nth pl from funext fun i => by rw [nth_eq]; simp]
          simpa using h1
        · cases h
      · cases h
    · cases h
  · rename_i n e hu
    split at h
    · split at h
      · rename_i z hz
        split at h
        · rename_i s hs
          simp at h
          subst h
          obtain ⟨i, v, hi, hiz, hI⟩ := zeroOf_items (E := E) (T := T) (w := w) hz
          obtain ⟨ie, hie, rfl⟩ := sizeF_info hs
          obtain ⟨cs', h1, h2⟩ := fillI_run (place := fun i => some (i * ie.size, ie.size)) (rfl : fillI _ z [] = some z) hp hI
          refine ⟨cs', .agg _ _ h2, ?_⟩
          unfold Program.built
          simp only [hi, hu, hiz, hie]
          simpa using h1
        · cases h
      · cases h
    · rename_i p ps
      split at h
      · rename_i zc hzc
        split at h
        · rename_i z hz
          split at h
          · rename_i s hs
            split at h
            · rename_i l hl
              simp at h
              subst h
              obtain ⟨i, v, hi, hiz, hv⟩ := zeroC_info hzc
              obtain ⟨ie, hie, rfl⟩ := sizeF_info hs
              obtain ⟨cs', h1, h2⟩ := fillI_run hl hp (Items.ofCs (E := E) (T := T) (w := w) hz)
              refine ⟨cs', .agg _ _ h2, ?_⟩
              unfold Program.built
              simp only [hi, hu, hiz, hie, hv]
              exact h1
            · cases h
          · cases h
        · cases h
      · cases h
  · cases h
theorem condOf_map {c : Prop} {s : SV} (h : All ((condOf s).map (c → ·))) (hc : c) {v : Value} (hr : Rep E T w s v) : Rep E T w (core s) v := by
  cases s <;> first | exact hr | skip
  rename_i g s'
  exact hr.unmay (h.one hc)
theorem pickV_run {cb : Bool} {x y r : SV} {φ : List Prop} {u v : Value} (h : pickV cb x y = some (φ, r)) (hφ : All φ) (hx : Rep E T w x u) (hy : Rep E T w y v) : Rep E T w r (if cb = true then u else v) := by
  have hx' : ∀ hc : cb = true, All ((condOf x).map (cb = true → ·)) → Rep E T w (core x) u := fun hc ha => condOf_map ha hc hx
  have hy' : ∀ hc : cb = false, All ((condOf y).map (cb = false → ·)) → Rep E T w (core y) v := fun hc ha => condOf_map ha hc hy
  unfold pickV at h
  simp only at h
  generalize hcx : core x = cx at h hx'
  generalize hcy : core y = cy at h hy'
  split at h
  · simp at h
    obtain ⟨rfl, rfl⟩ := h
    obtain ⟨h1, h2⟩ := hφ.app
    cases cb with
    | true =>
      have := hx' rfl h1
      cases this
      exact .bool _
    | false =>
      have := hy' rfl h2
      cases this
      exact .bool _
  · split at h
    · rename_i hk
      have hk' := kindB_eq hk
      subst hk'
      simp at h
      obtain ⟨rfl, rfl⟩ := h
      obtain ⟨h1, h2⟩ := hφ.app
      cases cb with
      | true => exact hx' rfl h1
      | false => exact hy' rfl h2
    · cases h
  · simp at h
    obtain ⟨rfl, rfl⟩ := h
    obtain ⟨h1, h2⟩ := hφ.app
    cases cb with
    | true => exact hx' rfl h1
    | false => exact hy' rfl h2
  · cases h
theorem nthI_run : ∀ {l : List SV} {vs : List Value} {i : Nat} {r : SV}, nthI l i = some r → Tup E T w l vs → ∃ v, vs[i]? = some v ∧ Rep E T w r v
  | _, _, i, r, h, .nil => by cases i <;> simp [nthI] at h
  | s :: l, v :: vs, 0, r, h, .cons _ _ _ _ hr hl => by simp [nthI] at h; subst h; exact ⟨v, rfl, hr⟩
  | s :: l, v :: vs, i + 1, r, h, .cons _ _ _ _ hr hl => by
    simp [nthI] at h
    obtain ⟨v', h1, h2⟩ := nthI_run h hl
    exact ⟨v', by simpa using h1, h2⟩
theorem bifV_run (V : Vw Γ F M E T a w) {b : Builtin} {ats : List TypeId} {xs : List Operand} {r : SV} {φ : List Prop} (h : bifV Γ P F b ats xs = some (φ, r)) (hφ : All φ) :
    ∃ u, Rep E T w r u ∧ ∀ (w' : World) (ty : TypeId) (cs : Array Bool), (builtin b ats.toArray ty cs (xs.map a.eval).toArray).run P w' = .ok (.value u) w' := by
  unfold bifV at h
  split at h
  · obtain ⟨s, φ', hs, hk, hφ'⟩ := op1_inv V h hφ
    obtain ⟨u, h1, h2⟩ := lenV_run (P := P) (ty := 0) hk hs
    refine ⟨u, h1, fun w' ty cs => ?_⟩
    have : ∀ ty' : TypeId, Builtin.len_ = fun a (_ : TypeId) v => Builtin.len_ a ty' v := fun ty' => by funext a t v; unfold Builtin.len_; rfl
    simp only [builtin, List.map_cons, List.map_nil, Sem.run_bind]
    rw [this 0, h2]
    rfl
  · obtain ⟨s, φ', hs, hk, hφ'⟩ := op1_inv V h hφ
    obtain ⟨s2, φ2, hs2, hk2, hφ2⟩ := op1_inv V hk hφ'
    split at hk2
    · split at hk2
      · rename_i hkk
        have := kindB_eq hkk
        subst this
        simp at hk2
        obtain ⟨rfl, rfl⟩ := hk2
        generalize hx : a.eval _ = vx at hs
        generalize hy : a.eval _ = vy at hs2
        cases hs with
        | int _ _ r1 =>
          cases hs2 with
          | int _ _ r2 =>
            refine ⟨_, .int _ _ (inR_max r1 r2), fun w' ty cs => ?_⟩
            simp [builtin, hx, hy, Builtin.max_, Builtin.max2, maxV]
      · cases hk2
    · cases hk2
  · obtain ⟨s, φ', hs, hk, hφ'⟩ := op1_inv V h hφ
    obtain ⟨s2, φ2, hs2, hk2, hφ2⟩ := op1_inv V hk hφ'
    split at hk2
    · split at hk2
      · rename_i hkk
        have := kindB_eq hkk
        subst this
        simp at hk2
        obtain ⟨rfl, rfl⟩ := hk2
        generalize hx : a.eval _ = vx at hs
        generalize hy : a.eval _ = vy at hs2
        cases hs with
        | int _ _ r1 =>
          cases hs2 with
          | int _ _ r2 =>
            refine ⟨_, .int _ _ (inR_min r1 r2), fun w' ty cs => ?_⟩
            simp [builtin, hx, hy, Builtin.min_, Builtin.min2, minV]
      · cases hk2
    · cases hk2
  · cases h
theorem exec_call_builtin {o : Oper} {b : Builtin} {xs : List Operand} {ats : List TypeId} (ho : o.op = .call ⟨.builtin b, ⟨xs⟩, ⟨ats⟩⟩) :
    ∃ cs : Array Bool, execOp a.eval o = builtin b ats.toArray o.type cs (xs.map a.eval).toArray := by
  refine ⟨(⟨xs⟩ : Array Operand).map fun | .const _ => true | _ => false, ?_⟩
  unfold execOp
  simp only [ho, resolve]
  rw [show ((⟨xs⟩ : Array Operand).map a.eval) = (xs.map a.eval).toArray by simp]
  rfl
theorem sliceV_φ {t : TypeId} {lo hi : Option Nat} {φ0 φ : List Prop} {x r : SV} (h : sliceV P M t lo hi φ0 x = some (φ, r)) : ∀ p ∈ φ0, p ∈ φ := by
  unfold sliceV at h
  repeat' split at h
  all_goals first | (cases h; done) | (simp only [Option.some.injEq, Prod.mk.injEq] at h; obtain ⟨rfl, rfl⟩ := h; exact fun p hp => List.mem_append_left _ hp)
theorem nat_of {n : Int} (h : 0 ≤ n) : n = ((n.toNat : Nat) : Int) := by omega
theorem ev1_run {X : IntKind → Bool} (V : Vw Γ F M E T a w) {op : Op} {r : SV} {φ : List Prop} (h : ev1 X P Γ F M op = some (φ, r)) (hφ : All φ) :
    ∃ v, Rep E T w r v ∧ ∀ w', Below w.heap.size w w' → ∀ o : Oper, o.op = op → (execOp a.eval o).run P w' = .ok (.value v) w' := by
  unfold ev1 at h
  split at h
  · obtain ⟨s, φ', hs, hk, hφ'⟩ := op1_inv V h hφ
    simp at hk; obtain ⟨_, rfl⟩ := hk
    exact ⟨_, hs, fun w' _ o ho => by unfold execOp; simp [ho]⟩
  · obtain ⟨s, φ', hs, hk, hφ'⟩ := op1_inv V h hφ
    simp at hk; obtain ⟨_, rfl⟩ := hk
    exact ⟨_, hs, fun w' _ o ho => by unfold execOp; simp [ho]⟩
  · rename_i c x y
    obtain ⟨s, φ', hs, hk, hφ'⟩ := op1_inv V h hφ
    split at hk
    · rename_i cb
      split at hk
      · rename_i sa hsa
        split at hk
        · rename_i sb hsb
          have := pickV_run hk hφ' (opd_rep V hsa) (opd_rep V hsb)
          refine ⟨_, this, fun w' _ o ho => ?_⟩
          generalize hc : a.eval c = vc at hs
          cases hs
          unfold execOp
          simp [ho, hc, asBool]
        · cases hk
      · cases hk
    · cases hk
  · obtain ⟨s, φ', hs, hk, hφ'⟩ := op1_inv V h hφ
    obtain ⟨u, h1, h2⟩ := loadV_run V.mem hk hφ' hs
    exact ⟨u, h1, fun w' hb o ho => by unfold execOp; simp [ho, h2 w' hb]⟩
  · split at h
    · rename_i o' ho'
      obtain ⟨s, φ', hs, hk, hφ'⟩ := op1_inv V h hφ
      obtain ⟨u, h1, h2⟩ := fieldAddrV_run ho' hk hs
      exact ⟨u, h1, fun w' hb o ho => by unfold execOp; simp [ho, h2 w']⟩
    · cases h
  · rename_i t x i
    obtain ⟨s, φ', hs, hk, hφ'⟩ := op1_inv V h hφ
    obtain ⟨s2, φ2, hs2, hk2, hφ2⟩ := op1_inv V hk hφ'
    split at hk2
    · rename_i k n
      generalize hi : a.eval i = vi at hs2
      cases hs2 with
      | int _ _ r1 =>
        obtain ⟨u, h1, h2⟩ := indexAddrV_run (k := k) hk2 hφ2 hs
        exact ⟨u, h1, fun w' hb o ho => by unfold execOp; simp [ho, hi, h2 w']⟩
    · cases hk2
  · rename_i t x i
    obtain ⟨s, φ', hs, hk, hφ'⟩ := op1_inv V h hφ
    obtain ⟨s2, φ2, hs2, hk2, hφ2⟩ := op1_inv V hk hφ'
    split at hk2
    · rename_i k n
      generalize hi : a.eval i = vi at hs2
      cases hs2 with
      | int _ _ r1 =>
        obtain ⟨u, h1, h2⟩ := indexV_run (P := P) (k := k) hk2 hφ2 hs
        exact ⟨u, h1, fun w' hb o ho => by unfold execOp; simp [ho, hi, h2 w']⟩
    · cases hk2
  · obtain ⟨s, φ', hs, hk, hφ'⟩ := op1_inv V h hφ
    obtain ⟨u, h1, h2⟩ := fieldV_run (P := P) hk hs
    exact ⟨u, h1, fun w' hb o ho => by unfold execOp; simp [ho, h2 w']⟩
  · obtain ⟨s, φ', hs, hk, hφ'⟩ := op1_inv V h hφ
    obtain ⟨s2, φ2, hs2, hk2, hφ2⟩ := op1_inv V hk hφ'
    obtain ⟨u, h1, h2⟩ := binV_run hk2 hφ2 hs hs2
    exact ⟨u, h1, fun w' hb o ho => h2 w' o ho⟩
  · obtain ⟨s, φ', hs, hk, hφ'⟩ := op1_inv V h hφ
    obtain ⟨u, h1, h2⟩ := unV_run (P := P) hk hφ' hs
    exact ⟨u, h1, fun w' hb o ho => by unfold execOp; simp [ho, h2 w']⟩
  · obtain ⟨s, φ', hs, hk, hφ'⟩ := op1_inv V h hφ
    obtain ⟨u, h1, h2⟩ := convV_run (P := P) V.mem hk hφ' hs
    exact ⟨u, h1, fun w' hb o ho => by unfold execOp; simp [ho, h2 w' hb]⟩
  · rename_i x i
    obtain ⟨s, φ', hs, hk, hφ'⟩ := op1_inv V h hφ
    split at hk
    · obtain ⟨_, hk'⟩ := withφ_inv hk
      generalize hx : a.eval x = vx at hs
      cases hs with
      | tup l vs ht =>
        obtain ⟨v, h1, h2⟩ := nthI_run hk' ht
        exact ⟨v, h2, fun w' hb o ho => by unfold execOp; simp [ho, hx, Instr.extract, h1]⟩
    · cases hk
  · rename_i f cs
    split at h
    · rename_i l hl
      simp at h; obtain ⟨_, rfl⟩ := h
      have ht := opds_tup V hl
      refine ⟨_, .fn f l _ ht, fun w' hb o ho => ?_⟩
      unfold execOp
      simp [ho, Instr.makeFunc]
    · cases h
  · rename_i f x fs
    split at h
    · rename_i l hl
      simp at h; obtain ⟨_, rfl⟩ := h
      have ht := opds_tup V hl
      refine ⟨_, .mv f l _ ht, fun w' hb o ho => ?_⟩
      unfold execOp
      simp [ho, Instr.makeFunc]
    · cases h
  · rename_i t x
    split at h
    · rename_i hi
      obtain ⟨s, φ', hs, hk, hφ'⟩ := op1_inv V h hφ
      simp at hk; obtain ⟨_, rfl⟩ := hk
      refine ⟨_, .ifc t s _ hs, fun w' hb o ho => ?_⟩
      unfold execOp
      unfold isIface at hi
      split at hi
      · simp at hi
      · rename_i d hne hu
        have : (Instr.makeInterface t (a.eval x)).run P w' = .ok (.iface t (a.eval x)) w' := by
          simp only [Instr.makeInterface, Sem.run_bind, run_underlying hu, Result.andThen_ok]
          cases d <;> first | rfl | (exact absurd rfl (hne _))
        simp [ho, this]
      · cases hi
    · cases h
  · rename_i x
    obtain ⟨s, φ', hs, hk, hφ'⟩ := op1_inv V h hφ
    generalize hx : a.eval x = vx at hs
    split at hk
    · simp at hk; obtain ⟨_, rfl⟩ := hk
      refine ⟨vx, hs, fun w' hb o ho => ?_⟩
      cases hs
      unfold execOp
      simp [ho, hx]
    · simp at hk; obtain ⟨_, rfl⟩ := hk
      refine ⟨vx, hs, fun w' hb o ho => ?_⟩
      cases hs
      unfold execOp
      simp [ho, hx]
    · simp at hk; obtain ⟨_, rfl⟩ := hk
      refine ⟨vx, hs, fun w' hb o ho => ?_⟩
      cases hs
      unfold execOp
      simp [ho, hx]
    · cases hk
  · rename_i t x lo hi
    obtain ⟨s, φ', hs, hk, hφ'⟩ := op1_inv V h hφ
    split at hk
    · obtain ⟨u, h1, h2⟩ := sliceV_run (P := P) V.mem (lo := none) (hi := none) hk hφ' hs.unB
      exact ⟨u, h1, fun w' hb o ho => by unfold execOp; have := h2 w'; simp at this; simp [ho, this]⟩
    · rename_i l
      obtain ⟨s2, φ2, hs2, hk2, hφ2⟩ := op1_inv V hk hφ'
      split at hk2
      · rename_i k n
        generalize hl : a.eval l = vl at hs2
        cases hs2
        obtain ⟨u, h1, h2⟩ := sliceV_run (P := P) V.mem (lo := some (k, n.toNat)) (hi := none) hk2 hφ2 hs.unB
        have hn : 0 ≤ n := by
          have := sliceV_φ hk2
          exact hφ2 _ (this _ (List.mem_cons_self ..))
        exact ⟨u, h1, fun w' hb o ho => by unfold execOp; have := h2 w'; simp only [Option.map_some, Option.map_none, ← nat_of hn] at this; simp [ho, hl, this]⟩
      · cases hk2
    · rename_i l
      obtain ⟨s2, φ2, hs2, hk2, hφ2⟩ := op1_inv V hk hφ'
      split at hk2
      · rename_i k n
        generalize hl : a.eval l = vl at hs2
        cases hs2
        obtain ⟨u, h1, h2⟩ := sliceV_run (P := P) V.mem (lo := none) (hi := some (k, n.toNat)) hk2 hφ2 hs.unB
        have hn : 0 ≤ n := by
          have := sliceV_φ hk2
          exact hφ2 _ (this _ (List.mem_cons_self ..))
        exact ⟨u, h1, fun w' hb o ho => by unfold execOp; have := h2 w'; simp only [Option.map_some, Option.map_none, ← nat_of hn] at this; simp [ho, hl, this]⟩
      · cases hk2
    · rename_i l l'
      obtain ⟨s2, φ2, hs2, hk2, hφ2⟩ := op1_inv V hk hφ'
      split at hk2
      · rename_i k n
        obtain ⟨s3, φ3, hs3, hk3, hφ3⟩ := op1_inv V hk2 hφ2
        split at hk3
        · rename_i k' n'
          generalize hl : a.eval l = vl at hs2
          generalize hl' : a.eval l' = vl' at hs3
          cases hs2
          cases hs3
          obtain ⟨u, h1, h2⟩ := sliceV_run (P := P) V.mem (lo := some (k, n.toNat)) (hi := some (k', n'.toNat)) hk3 hφ3 hs.unB
          have hh := sliceV_φ hk3
          have hn : 0 ≤ n := hφ3 _ (hh _ (List.mem_cons_self ..))
          have hn' : 0 ≤ n' := hφ3 _ (hh _ (List.mem_cons_of_mem _ (List.mem_cons_self ..)))
          exact ⟨u, h1, fun w' hb o ho => by unfold execOp; have := h2 w'; simp only [Option.map_some, ← nat_of hn, ← nat_of hn'] at this; simp [ho, hl, hl', this]⟩
        · cases hk3
      · cases hk2
  · rename_i t ps
    split at h
    · rename_i ψ l hl
      obtain ⟨rfl, h'⟩ := withφ_inv h
      obtain ⟨u, h1, h2⟩ := buildV_run (P := P) h' (partsC_ok V hl hφ)
      refine ⟨u, h1, fun w' hb o ho => ?_⟩
      unfold execOp
      have := h2 w'
      simp only [ho, Sem.run_bind]
      rw [show (Array.map (fun x => match x with | (i, x) => (i, a.eval x)) ⟨ps⟩) = (ps.map fun p => (p.1, a.eval p.2)).toArray by simp, this]
      rfl
    · cases h
  · obtain ⟨u, h1, h2⟩ := bifV_run V h hφ
    refine ⟨u, h1, fun w' hb o ho => ?_⟩
    obtain ⟨cs, hc⟩ := exec_call_builtin (a := a) ho
    rw [hc]
    exact h2 w' _ cs
  · cases h
end
end Go.Proofs.YtpbgihhfcdggkaaGreatDoor.V
end
section
namespace Go.Proofs.YtpbgihhfcdggkaaGreatDoor.V
open Go.RowKit
inductive Eff where
  | val (φ : List Prop) (v : SV)
  | new (φ : List Prop) (B : Blk) (v : SV)
  | upd (φ : List Prop) (id : Nat) (B : Blk) (v : Option SV)
  | mov (φ : List Prop) (id : Option Nat) (B : Blk) (v : SV)
def EV.set1 : EV → Nat → List SV → Option EV
  | .u8 l, i, [.int .u8 m] => some (.u8 (l.set i (UInt8.ofNat m.toNat)))
  | .ints k l, i, [.int k' m] => match kindB k k' with
    | true => some (.ints k (l.set i m))
    | false => none
  | .g n sz f, i, x => match Nat.beq (wI x) sz with
    | true => some (.g n sz (fun j => if j = i then x else f j))
    | false => none
  | _, _, _ => none
def EV.setE (e : EV) (i j n : Nat) (x : List SV) : Option EV :=
  match Nat.beq j 0 && Nat.beq n e.sz with
  | true => e.set1 i x
  | false => match pasteI (e.items i) j n x with
    | some y => e.set1 i y
    | none => none
def storeE (P : Program) (M : Mem) (t : TypeId) (p s : SV) : Option Eff :=
  match itemsOf s, sizeF P t with
  | some x, some n => match Nat.beq (wI x) n with
    | true => match p with
      | .ptr id off => match find M id with
        | some (.cells t' l) => match pasteI l off n x with
          | some l' => some (.upd [] id (.cells t' l') none)
          | none => none
        | _ => none
      | .pel id base sz i j => match find M id with
        | some (.row t' e) => match Nat.beq base 0 && Nat.beq e.sz sz with
          | true => match e.setE i j n x with
            | some e' => some (.upd [i < e.len] id (.row t' e') none)
            | none => none
          | false => none
        | some (.cells t' l) => match dropI l base with
          | some (.arr m e :: _) => match Nat.beq e.sz sz with
            | true => match e.setE i j n x with
              | some e' => match pasteI l base m [.arr m e'] with
                | some l' => some (.upd [i < e.len] id (.cells t' l') none)
                | none => none
              | none => none
            | false => none
          | _ => none
        | _ => none
      | _ => none
    | false => none
  | _, _ => none
def u8s : List (Nat × SV) → Nat → Option (List UInt8)
  | [], _ => some []
  | (i, .int .u8 m) :: r, k => match Nat.beq i k with
    | true => match u8s r (k + 1) with
      | some l => some (UInt8.ofNat m.toNat :: l)
      | none => none
    | false => none
  | _ :: _, _ => none
def intS (q : IntKind) : List (Nat × SV) → Nat → Option (List Int)
  | [], _ => some []
  | (i, .int q' m) :: r, k => match Nat.beq i k && kindB q q' with
    | true => match intS q r (k + 1) with
      | some l => some (m :: l)
      | none => none
    | false => none
  | _ :: _, _ => none
def elS (sz : Nat) : List (Nat × SV) → Nat → Option (List (List SV))
  | [], _ => some []
  | (i, s) :: r, k => match itemsOf s with
    | some x => match Nat.beq i k && Nat.beq (wI x) sz with
      | true => match elS sz r (k + 1) with
        | some l => some (x :: l)
        | none => none
      | false => none
    | none => none
def nthL : List (List SV) → Nat → List SV
  | [], _ => []
  | x :: _, 0 => x
  | _ :: r, n + 1 => nthL r n
def strC : List SV → Option (List (List UInt8))
  | [] => some []
  | .str s :: r => match strC r with
    | some l => some (s :: l)
    | none => none
  | _ :: _ => none
def intC (q : IntKind) : List SV → Option (List Int)
  | [] => some []
  | .int q' m :: r => match kindB q q' with
    | true => match intC q r with
      | some l => some (m :: l)
      | none => none
    | false => none
  | _ :: _ => none
def colF : List SV → Option (Nat → SV)
  | .str s :: r => match strC (.str s :: r) with
    | some l => some fun i => .str (l.getD i [])
    | none => none
  | .int q m :: r => match intC q (.int q m :: r) with
    | some l => some fun i => .int q (l.getD i 0)
    | none => none
  | _ => none
def headsL : List (List SV) → Option (List SV × List (List SV))
  | [] => some ([], [])
  | [] :: _ => none
  | (x :: t) :: r => match headsL r with
    | some (h, q) => some (x :: h, t :: q)
    | none => none
def allNil : List (List SV) → Bool
  | [] => true
  | [] :: r => allNil r
  | _ :: _ => false
def colsF : Nat → List (List SV) → Option (Nat → List SV)
  | 0, l => match allNil l with
    | true => some fun _ => []
    | false => none
  | w + 1, l => match headsL l with
    | some (h, t) => match colF h with
      | some f => match colsF w t with
        | some g => some fun i => f i :: g i
        | none => none
      | none => none
    | none => none
def litF (n sz : Nat) (l : List (List SV)) : Nat → List SV :=
  match Nat.ble 4 n with
  | true => match colsF sz l with
    | some f => f
    | none => nthL l
  | false => nthL l
def litE (P : Program) (elem : TypeId) (n sz : Nat) (ps : List (Nat × SV)) : Option EV :=
  match P.underlying elem with
  | some (.int .u8) => match u8s ps 0 with
    | some l => match Nat.beq l.length n && Nat.beq sz 1 with
      | true => some (.u8 l)
      | false => none
    | none => none
  | some (.int k) => match intS k ps 0 with
    | some l => match Nat.beq l.length n && Nat.beq sz 1 with
      | true => some (.ints k l)
      | false => none
    | none => none
  | some _ => match elS sz ps 0 with
    | some l => match Nat.beq l.length n with
      | true => some (.g n sz (litF n sz l))
      | false => none
    | none => none
  | none => none
def bytesF (P : Program) (t : TypeId) : Option Nat :=
  match P.info? t with
  | some i => some i.bytes
  | none => none
def zeroE (P : Program) (elem : TypeId) (zv : Value) (n : Nat) : Option EV :=
  match zv with
  | .int .u8 (.ofNat 0) => some (.u8 (List.replicate n 0))
  | .int k (.ofNat 0) => some (.ints k (List.replicate n 0))
  | zv => match zeroI P 200 elem zv.cells.toList with
    | some z => some (.g n (wI z) (fun _ => z))
    | none => none
def EV.app : EV → EV → Option EV
  | .u8 l, .u8 m => some (.u8 (l ++ m))
  | .ints k l, .ints k' m => match kindB k k' with
    | true => some (.ints k (l ++ m))
    | false => none
  | .g n sz f, .g n' sz' f' => match Nat.beq sz sz' with
    | true => some (.g (n + n') sz (fun i => if i < n then f i else f' (i - n)))
    | false => none
  | _, _ => none
def nilE (P : Program) (elem : TypeId) (zv : Value) : Option EV := zeroE P elem zv 0
def srcE (M : Mem) (elem : EV) (u8 : Bool) : SV → Option (List Prop × EV)
  | .ro e => some ([], e)
  | .nils => some ([], elem)
  | .str l => match u8 with
    | true => some ([], .u8 l)
    | false => none
  | .row id base sz sub len => match runAt M id base with
    | some e => match Nat.beq e.sz sz with
      | true => some ([sub + len ≤ e.len], e.sub sub len)
      | false => none
    | none => none
  | _ => none
def isU8 : EV → Bool
  | .u8 _ => true
  | _ => false
def srcZ (P : Program) (M : Mem) (elem : TypeId) (zv : Value) (b : Nat) (e0 : EV) : SV → Option (List Prop × EV)
  | .int _ (.ofNat (n + 1)) => match zeroE P elem zv (n + 1) with
    | some e => some ([(n + 1) * b ≤ 140737488355328], e)
    | none => none
  | .int _ _ => none
  | x => srcE M e0 (isU8 e0) x
def appendE (P : Program) (M : Mem) (nx : Nat) (t : TypeId) (s x : SV) : Option Eff :=
  match P.underlying t with
  | some (.slice elem) => match sizeF P elem, bytesF P elem, (P.info? elem).bind (·.zero) with
    | some (z + 1), some (b + 1), some zv => match nilE P elem zv with
     | none => none
     | some e0 => match Nat.beq zv.cells.toList.length (z + 1) && Nat.beq e0.sz (z + 1) with
      | true => match srcZ P M elem zv (b + 1) e0 x with
        | some (φ, e2) => match Nat.beq e2.sz (z + 1) with
          | true => match s with
            | .nils => match e0.app e2 with
              | some e' => some (.mov (φ ++ [e2.len * (b + 1) ≤ 140737488355328]) none (.row elem e') (.row nx 0 (z + 1) 0 e2.len))
              | none => none
            | .row id base sz sub len => match Nat.beq base 0 && Nat.beq sub 0 && Nat.beq sz (z + 1) with
              | true => match find M id with
                | some (.row t' e) => match Nat.beq t' elem && Nat.beq e.sz (z + 1) with
                  | true => match e.app e2 with
                    | some e' => some (.mov (φ ++ [len = e.len, (len + e2.len) * (b + 1) ≤ 140737488355328]) (some id) (.row elem e') (.row nx 0 (z + 1) 0 (len + e2.len)))
                    | none => none
                  | false => none
                | _ => none
              | false => none
            | _ => none
          | false => none
        | none => none
      | false => none
    | _, _, _ => none
  | _ => none
def ev2 (P : Program) (Γ : Glob) (F : Tr) (M : Mem) (nx : Nat) : Op → Option Eff
  | .alloc t => match zeroOf P t with
    | some l => some (.new [] (.cells t l) (.ptr nx 0))
    | none => none
  | .box t x => match opd Γ F x with
    | some s => match itemsOf (core s) with
      | some l => some (.new (condOf s) (.cells t l) (.ptr nx 0))
      | none => none
    | none => none
  | .store t p x => match opd Γ F p with
    | some sp => match opd Γ F x with
      | some s => match storeE P M t (core sp) (core s) with
        | some (.upd φ id B v) => some (.upd (condOf sp ++ condOf s ++ φ) id B v)
        | _ => none
      | none => none
    | none => none
  | .buildSlice t n ⟨ps⟩ => match P.underlying t with
    | some (.slice elem) => match sizeF P elem with
      | some (sz + 1) => match (P.info? elem).bind (·.zero), Nat.ble (n * (sz + 1)) 16777216, partsF Γ F ps with
        | some zv, true, some l => match Nat.beq zv.cells.toList.length (sz + 1), litE P elem n (sz + 1) l with
          | true, some e => some (.new [] (.row elem e) (.row nx 0 (sz + 1) 0 n))
          | _, _ => none
        | _, _, _ => none
      | _ => none
    | _ => none
  | .makeSlice t l c => match P.underlying t with
    | some (.slice elem) => match sizeF P elem, bytesF P elem, opd Γ F l, opd Γ F c with
      | some (sz + 1), some b, some (.int _ n), some (.int _ m) => match (P.info? elem).bind (·.zero) with
        | some zv => match zeroE P elem zv n.toNat with
          | some e => match Nat.beq e.sz (sz + 1) && Nat.beq zv.cells.toList.length (sz + 1) with
            | true => some (.new [0 ≤ n ∧ n ≤ m ∧ (b : Int) * m ≤ 281474976710656 ∧ m ≤ 9223372036854775807] (.row elem e) (.row nx 0 (sz + 1) 0 n.toNat))
            | false => none
          | none => none
        | none => none
      | _, _, _, _ => none
    | _ => none
  | .call ⟨.builtin .append, ⟨[s, x]⟩, ⟨[t, t']⟩⟩ => match opd Γ F s, opd Γ F x, P.underlying t' with
    | some a, some b, some (.slice _) => match b with
      | .str _ => none
      | .int _ _ => none
      | b => appendE P M nx t a b
    | some a, some (.str l), some .string => appendE P M nx t a (.str l)
    | some a, some (.int k n), some (.int _) => appendE P M nx t a (.int k n)
    | _, _, _ => none
  | _ => none
end Go.Proofs.YtpbgihhfcdggkaaGreatDoor.V
end
section
namespace Go.Proofs.YtpbgihhfcdggkaaGreatDoor.V
open Go.RowKit
section
variable {C : Ctx} {F F' : Tr} {M M' : Mem} {U U' : Nat → Prop} {nx : Nat} {E E' : Env} {a : Act} {w w' : World}
theorem getD_put (h : a.tmps.size = C.N) {d : Nat} (hd : d < C.N) (v : Value) (t : Nat) : (a.put (some d) v).tmps.getD t undef = if t = d then v else a.tmps.getD t undef := by
  simp only [Act.put, Array.getD_eq_getD_getElem?]
  by_cases htd : t = d
  · subst htd
    rw [if_pos rfl, Array.getElem?_setIfInBounds_self, if_pos (by omega)]
    rfl
  · rw [if_neg htd, Array.getElem?_setIfInBounds_ne (fun e => htd e.symm)]
theorem St.put (h : St C F M U E a w) {d : Nat} (hd : Nat.blt d C.N = true) {s : Option SV} {v : Value} (hF : F.put d s = some F') (hr : ∀ s', s = some s' → Rep E (trk C.T0 M E) w s' v) : St C F' M U E (a.put (some d) v) w := by
  have hd' : d < C.N := by simpa using hd
  refine ⟨h.defers, by simp [Act.put, h.size], fun t s' hs => ?_, h.mem, h.own, h.fresh, h.kp, h.hid, h.glob, h.pin, h.held⟩
  rw [getD_put h.size hd']
  rw [Tr.get_put F F' d s hF] at hs
  split at hs
  · rename_i ht
    rw [if_pos ht]
    exact hr s' hs
  · rename_i ht
    rw [if_neg ht]
    exact h.slots t s' hs
theorem Chg.weak {T T' : Nat → Prop} {w w' : World} (h : Chg T w w') (hT : ∀ b, T b → T' b) : Chg T' w w' := ⟨h.size, fun b hb hn => h.keep b hb fun ht => hn (hT b ht), h.shape⟩
theorem St.go (h : St C F M U E a w) (hE : ∀ i x, E i = some x → E' i = some x) (hT : ∀ b, b < w.heap.size → trk C.T0 M' E' b → trk C.T0 M E b) (hw : Chg (mine M E) w w') (hos : w'.os = w.os) (ht : w'.tape = w.tape) (ho : w'.output = w.output)
    (hm : MOk E' (trk C.T0 M' E') M' w') (hown : ∀ id b, (find M' id).isSome = true → E' id = some (some b) → C.W0.heap.size ≤ b ∨ C.S b) (hf : ∀ k, U' k → E' k = none) : St C F M' U' E' a w' := by
  have hw2 := hw.weak (T' := trk C.T0 M E) fun _ => .inl
  refine ⟨h.defers, h.size, fun t s hs => (h.slots t s hs).mono hE hT hw2, hm, hown, hf, ⟨hos.trans h.kp.os, ht.trans h.kp.tape, ho.trans h.kp.output, ?_⟩, h.hid, h.glob.mono hT hw2, fun p hp i b h2 => ⟨(h.pin p hp i b h2).1, hE i b (h.pin p hp i b h2).2⟩, fun p hp t s hs => (h.held p hp t s hs).mono (fun _ _ h => h) hT hw2⟩
  refine ⟨Nat.le_trans h.kp.chg.size hw.size, fun b hb hS => ?_, fun b hb => ?_⟩
  · have hlt := Nat.lt_of_lt_of_le hb h.kp.chg.size
    refine (hw.keep b hlt fun hTb => ?_).trans (h.kp.chg.keep b hb hS)
    obtain ⟨id, B, hfi, hEi⟩ := hTb
    rcases h.own id b (by rw [hfi]; rfl) hEi with h1 | h1
    · omega
    · exact hS h1
  · have hlt := Nat.lt_of_lt_of_le hb h.kp.chg.size
    exact (hw.shape b hlt).trans (h.kp.chg.shape b hb)
theorem BOk.mono {T T' : Nat → Prop} {b : Nat} {B : Blk} (hE : ∀ i x, E i = some x → E' i = some x) (hT : ∀ b, b < w.heap.size → T' b → T b) (hw : Chg T w w') (hb : w'.heap[b]? = w.heap[b]?) (h : BOk E T w b B) : BOk E' T' w' b B := by
  cases B with
  | cells t l =>
    obtain ⟨cs, h1, h2⟩ := h
    exact ⟨cs, hb.trans h1, h2.mono hE hT hw⟩
  | row t e =>
    obtain ⟨cs, c, h1, h2, h3, h4, h5⟩ := h
    exact ⟨cs, c, hb.trans h1, h2, h3, h4, fun i hi => (h5 i hi).mono hE hT hw⟩
  | obj o => exact hb.trans h
theorem alloc_size (w : World) (o : Obj) : (w.alloc o).heap.size = w.heap.size + 1 := by unfold World.alloc; exact Array.size_push ..
theorem Chg.alloc (T : Nat → Prop) (w : World) (o : Obj) : Chg T w (w.alloc o) :=
  ⟨by rw [alloc_size]; omega, fun b hb _ => Below.heap_alloc w o b hb, fun b hb => by simp [World.shape?, Below.heap_alloc w o b hb]⟩
theorem Chg.drew (T : Nat → Prop) (w : World) : Chg T w w.drew := ⟨Nat.le_refl _, fun _ _ _ => rfl, fun _ _ => rfl⟩
def envWith (E : Env) (k : Nat) (x : Option Nat) : Env := fun i => if i = k then some x else E i
theorem envWith_old {k : Nat} {x : Option Nat} (hk : E k = none) : ∀ i y, E i = some y → envWith E k x i = some y := fun i y hi => by
  unfold envWith
  split
  · rename_i h; subst h; rw [hk] at hi; cases hi
  · exact hi
theorem St.new (h : St C F M U E a w) (hU : U nx) {o : Obj} {B : Blk} (hB : BOk (envWith E nx (some w.heap.size)) (trk C.T0 ((nx, B) :: M) (envWith E nx (some w.heap.size))) (w.alloc o) w.heap.size B) :
    St C F ((nx, B) :: M) (rest U nx) (envWith E nx (some w.heap.size)) a (w.alloc o) := by
  have hnx := h.fresh nx hU
  have hold := envWith_old (x := some w.heap.size) hnx
  have hidlt : ∀ id b, E id = some b → id ≠ nx := fun id b hb e => by subst e; rw [hnx] at hb; cases hb
  have hT : ∀ b, b < w.heap.size → trk C.T0 ((nx, B) :: M) (envWith E nx (some w.heap.size)) b → trk C.T0 M E b := by
    rintro b hb (⟨id, B', hf, hE⟩ | h0)
    · unfold envWith at hE
      split at hE
      · rename_i he
        simp at hE
        omega
      · rename_i he
        rw [find_cons, if_neg he] at hf
        exact .inl ⟨id, B', hf, hE⟩
    · exact .inr h0
  refine h.go hold hT (Chg.alloc _ w o) rfl rfl rfl ⟨fun id B' hf => ?_, fun id id' b h1 h2 h3 h4 => ?_⟩ (fun id b hf hE => ?_) (fun k hk => ?_)
  · rw [find_cons] at hf
    split at hf
    · rename_i he
      subst he
      simp at hf
      subst hf
      left
      exact ⟨w.heap.size, by simp [envWith], by rw [alloc_size]; omega, hB⟩
    · rename_i he
      rcases h.mem.blk id B' hf with ⟨b, h1, h2, h3⟩ | ⟨h1, h2⟩
      · left
        refine ⟨b, hold _ _ h1, by rw [alloc_size]; omega, h3.mono hold hT (Chg.alloc _ w o) (Below.heap_alloc w o b h2)⟩
      · right
        exact ⟨hold _ _ h1, h2⟩
  · unfold envWith at h3 h4
    rw [find_cons] at h1 h2
    have key : ∀ i, i ≠ nx → (find M i).isSome = true → E i = some (some b) → b < w.heap.size := fun i _ hi hE => by
      obtain ⟨B', hB'⟩ := Option.isSome_iff_exists.1 hi
      exact (h.mem.at hB' hE).1
    by_cases e1 : id = nx
    · by_cases e2 : id' = nx
      · omega
      · rw [if_pos e1] at h3
        rw [if_neg e2] at h2 h4
        have := key id' e2 h2 h4
        simp at h3
        omega
    · by_cases e2 : id' = nx
      · rw [if_pos e2] at h4
        rw [if_neg e1] at h1 h3
        have := key id e1 h1 h3
        simp at h4
        omega
      · rw [if_neg e1] at h1 h3
        rw [if_neg e2] at h2 h4
        exact h.mem.inj id id' b h1 h2 h3 h4
  · unfold envWith at hE
    split at hE
    · simp at hE
      subst hE
      left
      exact h.kp.chg.size
    · rename_i he
      rw [find_cons, if_neg he] at hf
      exact h.own id b hf hE
  · unfold envWith
    rw [if_neg hk.2]
    exact h.fresh k hk.1
theorem Chg.setRow {T : Nat → Prop} {b : Nat} {cs cs' : List Value} {t : TypeId} (hb : w.heap[b]? = some (.cells cs.toArray t (0, 0))) (hT : T b) (hl : cs'.length = cs.length) : Chg T w (w.setRow b cs'.toArray) := by
  refine ⟨by simp, fun k hk hTk => setRow_other w b k _ (fun e => hTk (e ▸ hT)), fun k hk => ?_⟩
  by_cases hkb : k = b
  · subst hkb
    simp [World.shape?, setRow_heap w k cs.toArray cs'.toArray t (0, 0) hb, hb, hl]
  · simp [World.shape?, setRow_other w b k _ hkb]
theorem St.upd_ (h : St C F M U E a w) {id b : Nat} {B B' : Blk} {cs cs' : List Value} {t : TypeId} (hM : upd M id B' = some M') (hf : find M id = some B) (hE : E id = some (some b)) (hb : w.heap[b]? = some (.cells cs.toArray t (0, 0)))
    (hl : cs'.length = cs.length) (hB : BOk E (trk C.T0 M' E) (w.setRow b cs'.toArray) b B') : St C F M' U E a (w.setRow b cs'.toArray) := by
  have hfind := find_upd hM
  have hsome : ∀ k, (find M' k).isSome = true → (find M k).isSome = true := fun k hk => by
    rw [hfind] at hk
    split at hk
    · rename_i e; subst e; rw [hf]; rfl
    · exact hk
  have hT : ∀ x, x < w.heap.size → trk C.T0 M' E x → trk C.T0 M E x := by
    rintro x _ (⟨k, B1, h1, h2⟩ | h0)
    · have := hsome k (by rw [h1]; rfl)
      obtain ⟨B2, hB2⟩ := Option.isSome_iff_exists.1 this
      exact .inl ⟨k, B2, hB2, h2⟩
    · exact .inr h0
  have hTb : mine M E b := ⟨id, B, hf, hE⟩
  have hw := Chg.setRow hb hTb hl
  have hos : (w.setRow b cs'.toArray).os = w.os := rfl
  refine h.go (fun _ _ h => h) hT hw rfl rfl rfl ⟨fun k B1 h1 => ?_, fun k k' x h1 h2 h3 h4 => h.mem.inj k k' x (hsome k h1) (hsome k' h2) h3 h4⟩ (fun k x h1 h2 => h.own k x (hsome k h1) h2) h.fresh
  rw [hfind] at h1
  split at h1
  · rename_i e
    subst e
    simp at h1
    subst h1
    left
    exact ⟨b, hE, by simpa using (h.mem.at hf hE).1, hB⟩
  · rename_i e
    rcases h.mem.blk k B1 h1 with ⟨x, h2, h3, h4⟩ | h2
    · left
      have hxb : x ≠ b := fun e' => by
        subst e'
        exact e (h.mem.inj k id x (by rw [h1]; rfl) (by rw [hf]; rfl) h2 hE)
      exact ⟨x, h2, by simpa using h3, h4.mono (fun _ _ h => h) hT (hw.weak fun _ => .inl) (setRow_other w b x _ hxb)⟩
    · right; exact h2
theorem St.drew (h : St C F M U E a w) : St C F M U E a w.drew := by
  refine h.go (fun _ _ h => h) (fun _ _ h => h) (Chg.drew _ w) rfl rfl rfl ⟨fun k B1 h1 => ?_, h.mem.inj⟩ h.own h.fresh
  rcases h.mem.blk k B1 h1 with ⟨x, h3, h4, h5⟩ | h3
  · left
    exact ⟨x, h3, h4, h5.mono (fun _ _ h => h) (fun _ _ h => h) (Chg.drew _ w) rfl⟩
  · right; exact h3
def delO (M : Mem) : Option Nat → Mem
  | some id => del M id
  | none => M
theorem find_delO {M : Mem} {o : Option Nat} {k : Nat} {B : Blk} (h : find (delO M o) k = some B) : find M k = some B ∧ some k ≠ o := by
  cases o with
  | none => exact ⟨h, by simp⟩
  | some id =>
    simp only [delO, find_del] at h
    split at h
    · cases h
    · rename_i e; exact ⟨h, by simpa using e⟩
theorem St.mov (h : St C F M U E a w) (hU : U nx) {o b : Option Nat} {B : Blk} (hw : Chg (mine M E) w w') (hos : w'.os = w.os) (ht : w'.tape = w.tape) (ho : w'.output = w.output)
    (hx : ∀ x, b = some x → x < w'.heap.size ∧ (w.heap.size ≤ x ∨ ∃ id B0, o = some id ∧ find M id = some B0 ∧ E id = some (some x)))
    (hk : ∀ k B1 y, find (delO M o) k = some B1 → E k = some (some y) → w'.heap[y]? = w.heap[y]?)
    (hB : ∀ x, b = some x → BOk (envWith E nx b) (trk C.T0 ((nx, B) :: delO M o) (envWith E nx b)) w' x B) (hn : b = none → ∃ t e, B = .row t e ∧ e.len = 0) :
    St C F ((nx, B) :: delO M o) (rest U nx) (envWith E nx b) a w' := by
  have hnx := h.fresh nx hU
  have hold := envWith_old (x := b) hnx
  have hT : ∀ x, x < w.heap.size → trk C.T0 ((nx, B) :: delO M o) (envWith E nx b) x → trk C.T0 M E x := by
    rintro x hxs (⟨id, B', hf, hE⟩ | h0)
    · unfold envWith at hE
      split at hE
      · simp at hE
        rcases (hx x hE).2 with h1 | ⟨id', B0, _, h2, h3⟩
        · omega
        · exact .inl ⟨id', B0, h2, h3⟩
      · rename_i he
        rw [find_cons, if_neg he] at hf
        exact .inl ⟨id, B', (find_delO hf).1, hE⟩
    · exact .inr h0
  refine h.go hold hT hw hos ht ho ⟨fun id B' hf => ?_, fun id id' x h1 h2 h3 h4 => ?_⟩ (fun id x hf hE => ?_) (fun k hk => ?_)
  · rw [find_cons] at hf
    split at hf
    · rename_i he
      subst he
      simp at hf
      subst hf
      cases b with
      | none => right; exact ⟨by simp [envWith], hn rfl⟩
      | some x => left; exact ⟨x, by simp [envWith], (hx x rfl).1, hB x rfl⟩
    · rename_i he
      rcases h.mem.blk id B' (find_delO hf).1 with ⟨x, h1, h2, h3⟩ | ⟨h1, h2⟩
      · left; exact ⟨x, hold _ _ h1, Nat.lt_of_lt_of_le h2 hw.size, h3.mono hold hT (hw.weak fun _ => .inl) (hk id B' x hf h1)⟩
      · right; exact ⟨hold _ _ h1, h2⟩
  · unfold envWith at h3 h4
    rw [find_cons] at h1 h2
    have key : ∀ i, (find (delO M o) i).isSome = true → E i = some (some x) → b = some x → False := fun i hi hE hb => by
      obtain ⟨B', hB'⟩ := Option.isSome_iff_exists.1 hi
      obtain ⟨hf, hne⟩ := find_delO hB'
      rcases (hx x hb).2 with h5 | ⟨id2, B0, ho2, h6, h7⟩
      · have := (h.mem.at hf hE).1
        omega
      · have := h.mem.inj i id2 x (by rw [hf]; rfl) (by rw [h6]; rfl) hE h7
        subst this
        exact hne ho2.symm
    by_cases e1 : id = nx
    · by_cases e2 : id' = nx
      · omega
      · rw [if_pos e1] at h3
        rw [if_neg e2] at h2 h4
        simp at h3
        exact (key id' h2 h4 h3).elim
    · by_cases e2 : id' = nx
      · rw [if_pos e2] at h4
        rw [if_neg e1] at h1 h3
        simp at h4
        exact (key id h1 h3 h4).elim
      · rw [if_neg e1] at h1 h3
        rw [if_neg e2] at h2 h4
        obtain ⟨B1, hB1⟩ := Option.isSome_iff_exists.1 h1
        obtain ⟨B2, hB2⟩ := Option.isSome_iff_exists.1 h2
        exact h.mem.inj id id' x (by rw [(find_delO hB1).1]; rfl) (by rw [(find_delO hB2).1]; rfl) h3 h4
  · unfold envWith at hE
    split at hE
    · simp at hE
      rcases (hx x hE).2 with h5 | ⟨id2, B0, ho2, h6, h7⟩
      · left; exact Nat.le_trans h.kp.chg.size h5
      · exact h.own id2 x (by rw [h6]; rfl) h7
    · rename_i he
      rw [find_cons, if_neg he] at hf
      obtain ⟨B1, hB1⟩ := Option.isSome_iff_exists.1 hf
      exact h.own id x (by rw [(find_delO hB1).1]; rfl) hE
  · unfold envWith
    rw [if_neg hk.2]
    exact h.fresh k hk.1
end
end Go.Proofs.YtpbgihhfcdggkaaGreatDoor.V
end
section
namespace Go.Proofs.YtpbgihhfcdggkaaGreatDoor.V
open Go.RowKit
section
variable {P : Program} {Γ : Glob} {C : Ctx} {F : Tr} {M : Mem} {U : Nat → Prop} {nx : Nat} {E : Env} {a : Act} {w : World} {T : Nat → Prop}
theorem u8_back {m : Int} (h : inR .u8 m) : (((UInt8.ofNat m.toNat).toNat : Nat) : Int) = m := by
  simp [inR, IntKind.min, IntKind.max, IntKind.signed, IntKind.bits] at h
  rw [UInt8.toNat_ofNat']
  omega
theorem set1_ok {e e' : EV} {i : Nat} {y : List SV} {ys : List Value} (h : e.set1 i y = some e') (hi : i < e.len) (hy : Items E T w y ys) :
    e'.len = e.len ∧ e'.sz = e.sz ∧ ys.length = e.sz ∧ Items E T w (e'.items i) ys ∧ ∀ k, k ≠ i → e'.items k = e.items k := by
  unfold EV.set1 at h
  split at h
  · rename_i l m
    simp at h
    subst h
    obtain ⟨c, r, rfl, h1, h2⟩ := hy.head rfl
    cases h1 with
    | int _ _ hr =>
      cases h2
      simp only [EV.len] at hi
      refine ⟨by simp [EV.len], rfl, rfl, ?_, fun k hk => ?_⟩
      · simp only [EV.items]
        have : (l.set i (UInt8.ofNat m.toNat)).getD i 0 = UInt8.ofNat m.toNat := by simp [List.getD, hi]
        rw [this, u8_back hr]
        exact .one _ _ _ _ rfl (.int _ _ hr) .nil
      · simp only [EV.items]
        have : (l.set i (UInt8.ofNat m.toNat)).getD k 0 = l.getD k 0 := by simp [List.getD, List.getElem?_set_ne (Ne.symm hk)]
        rw [this]
  · rename_i k0 l k' m
    split at h
    · rename_i hk0
      have := kindB_eq hk0
      subst this
      simp at h
      subst h
      obtain ⟨c, r, rfl, h1, h2⟩ := hy.head rfl
      cases h2
      simp only [EV.len] at hi
      refine ⟨by simp [EV.len], rfl, rfl, ?_, fun k hk => ?_⟩
      · simp only [EV.items]
        have : (l.set i m).getD i 0 = m := by simp [List.getD, hi]
        rw [this]
        exact .one _ _ _ _ rfl h1 .nil
      · simp only [EV.items]
        have : (l.set i m).getD k 0 = l.getD k 0 := by simp [List.getD, List.getElem?_set_ne (Ne.symm hk)]
        rw [this]
    · cases h
  · rename_i n sz f
    split at h
    · rename_i hw
      simp at h
      subst h
      have := wI_len hy
      rw [Nat.eq_of_beq_eq_true hw] at this
      exact ⟨rfl, rfl, this.symm, by simpa [EV.items] using hy, fun k hk => by simp [EV.items, hk]⟩
    · cases h
  · cases h
def Seg (E : Env) (T : Nat → Prop) (w : World) (e : EV) (base : Nat) (cs : List Value) : Prop :=
  ∃ c : Nat → List Value, (∀ i, i < e.len → (c i).length = e.sz) ∧ (∀ i j v, i < e.len → (c i)[j]? = some v → cs[base + i * e.sz + j]? = some v) ∧ ∀ i, i < e.len → Items E T w (e.items i) (c i)
theorem paste_get {cs xs : List Value} {off n k : Nat} (hn : xs.length = n) (hle : off + n ≤ cs.length) : (cs.take off ++ xs ++ cs.drop (off + n))[k]? = if k < off then cs[k]? else if k < off + n then xs[k - off]? else cs[k]? := by
  have h1 : (cs.take off).length = off := by simp; omega
  by_cases hk : k < off
  · rw [if_pos hk, List.append_assoc, List.getElem?_append_left (by omega), List.getElem?_take, if_pos hk]
  · rw [if_neg hk, List.append_assoc, List.getElem?_append_right (by omega), h1]
    by_cases hk2 : k < off + n
    · rw [if_pos hk2, List.getElem?_append_left (by omega)]
    · rw [if_neg hk2, List.getElem?_append_right (by omega), List.getElem?_drop]
      congr 1
      omega
theorem setE_ok {e e' : EV} {base i j n : Nat} {x : List SV} {xs cs : List Value} (h : e.setE i j n x = some e') (hi : i < e.len) (hx : Items E T w x xs) (hn : xs.length = n) (hS : Seg E T w e base cs) (hend : base + i * e.sz + e.sz ≤ cs.length) :
    base + i * e.sz + j + n ≤ cs.length ∧ e'.len = e.len ∧ e'.sz = e.sz ∧ Seg E T w e' base (cs.take (base + i * e.sz + j) ++ xs ++ cs.drop (base + i * e.sz + j + n)) := by
  obtain ⟨c, hc1, hc2, hc3⟩ := hS
  have key : ∃ y ys, e.set1 i y = some e' ∧ Items E T w y ys ∧ ys = (c i).take j ++ xs ++ (c i).drop (j + n) ∧ j + n ≤ e.sz := by
    unfold EV.setE at h
    split at h
    · rename_i hb
      simp only [Bool.and_eq_true] at hb
      have e1 := Nat.eq_of_beq_eq_true hb.1
      have e2 := Nat.eq_of_beq_eq_true hb.2
      subst e1
      refine ⟨x, xs, h, hx, ?_, by omega⟩
      have : (c i).drop n = [] := List.drop_eq_nil_of_le (by rw [hc1 i hi]; omega)
      simp [this]
    · split at h
      · rename_i y hy
        obtain ⟨h1, h2⟩ := (hc3 i hi).paste hx hy
        rw [hc1 i hi] at h1
        exact ⟨y, _, h, h2, rfl, h1⟩
      · cases h
  obtain ⟨y, ys, h1, h2, h3, h4⟩ := key
  obtain ⟨k1, k2, k3, k4, k5⟩ := set1_ok h1 hi h2
  have hle : base + i * e.sz + j + n ≤ cs.length := by omega
  refine ⟨hle, k1, k2, fun k => if k = i then ys else c k, fun k hk => ?_, fun k j' v hk hj' => ?_, fun k hk => ?_⟩
  · rw [k1] at hk
    dsimp only
    split
    · rw [k3, k2]
    · rw [k2]; exact hc1 k hk
  · rw [k1] at hk
    rw [k2]
    dsimp only at hj'
    rw [paste_get hn hle]
    split at hj'
    · rename_i hki
      subst hki
      rw [h3] at hj'
      rw [paste_get hn (by rw [hc1 k hk]; exact h4)] at hj'
      by_cases g1 : j' < j
      · rw [if_pos g1] at hj'
        rw [if_pos (by omega)]
        exact hc2 k j' v hk hj'
      · rw [if_neg g1] at hj'
        rw [if_neg (by omega)]
        by_cases g2 : j' < j + n
        · rw [if_pos g2] at hj'
          rw [if_pos (by omega), ← hj']
          congr 1
          omega
        · rw [if_neg g2] at hj'
          rw [if_neg (by omega)]
          exact hc2 k j' v hk hj'
    · rename_i hki
      have hj2 : j' < e.sz := by
        have := (List.getElem?_eq_some_iff.1 hj').1
        rwa [hc1 k hk] at this
      have := hc2 k j' v hk hj'
      rcases Nat.lt_or_gt_of_ne hki with hlt | hgt
      · have hm : (k + 1) * e.sz ≤ i * e.sz := Nat.mul_le_mul_right _ hlt
        rw [Nat.add_mul] at hm
        rw [if_pos (by omega)]
        exact this
      · have hm : (i + 1) * e.sz ≤ k * e.sz := Nat.mul_le_mul_right _ hgt
        rw [Nat.add_mul] at hm
        rw [if_neg (by omega), if_neg (by omega)]
        exact this
  · rw [k1] at hk
    dsimp only
    split
    · rename_i hki
      subst hki
      exact k4
    · rename_i hki
      rw [k5 k hki]
      exact hc3 k hk
theorem run_newVar (t : TypeId) (v : Value) (w : World) : (newVar t v).run P w = .ok ⟨w.heap.size, 0, none⟩ (w.alloc (.cells v.cells t)) := rfl
theorem cells_toList (v : Value) : v.cells = v.cells.toList.toArray := by simp
def EffOk (C : Ctx) (F : Tr) (M : Mem) (U : Nat → Prop) (nx : Nat) (E : Env) (a : Act) (w : World) (o : Oper) : Eff → Prop
  | .val _ _ => False
  | .new φ B v => All φ → ∃ x E' w', (execOp a.eval o).run C.P w = .ok (.value x) w' ∧ Rep E' (trk C.T0 ((nx, B) :: M) E') w' v x ∧ St C F ((nx, B) :: M) (rest U nx) E' a w'
  | .upd φ id B none => All φ → ∃ M' w', upd M id B = some M' ∧ (execOp a.eval o).run C.P w = .ok .skip w' ∧ St C F M' U E a w'
  | .upd _ _ _ (some _) => False
  | .mov φ id B v => All φ → ∃ x E' w', (execOp a.eval o).run C.P w = .ok (.value x) w' ∧ Rep E' (trk C.T0 ((nx, B) :: delO M id) E') w' v x ∧ St C F ((nx, B) :: delO M id) (rest U nx) E' a w'
theorem paste_in {pre c1 cs' xs : List Value} {k n : Nat} (h : k + n ≤ c1.length) :
    pre ++ (c1.take k ++ xs ++ c1.drop (k + n)) ++ cs' = (pre ++ (c1 ++ cs')).take (pre.length + k) ++ xs ++ (pre ++ (c1 ++ cs')).drop (pre.length + k + n) := by
  rw [List.take_length_add_append, Nat.add_assoc, List.drop_length_add_append, List.take_append_of_le_length (by omega), List.drop_append_of_le_length h]
  simp
theorem upd_some : ∀ {M : Mem} {id : Nat} {B B' : Blk}, find M id = some B → ∃ M', upd M id B' = some M'
  | [], id, B, B', h => by simp [find] at h
  | (i, B0) :: r, id, B, B', h => by
    simp only [find] at h
    simp only [upd]
    split at h
    · exact ⟨_, rfl⟩
    · obtain ⟨M', hM'⟩ := upd_some (B' := B') h
      rw [hM']
      exact ⟨_, rfl⟩
theorem new_items (h : St C F M U E a w) (hU : U nx) {l : List SV} {cs : List Value} (B : Blk) (o : Obj) (hI : Items E (trk C.T0 M E) w l cs) :
    Items (envWith E nx (some w.heap.size)) (trk C.T0 ((nx, B) :: M) (envWith E nx (some w.heap.size))) (w.alloc o) l cs := by
  have hnx := h.fresh nx hU
  refine hI.mono (envWith_old hnx) (fun b hb hT => ?_) (Chg.alloc _ w o)
  rcases hT with ⟨id, B', hf, hE⟩ | h0
  · unfold envWith at hE
    split at hE
    · simp at hE; omega
    · rename_i he
      rw [find_cons, if_neg he] at hf
      exact .inl ⟨id, B', hf, hE⟩
  · exact .inr h0
theorem condOf_all {s : SV} {v : Value} (h : All (condOf s)) (hr : Rep E T w s v) : Rep E T w (core s) v := by
  cases s <;> first | exact hr | skip
  exact hr.unmay h.one
theorem alloc_ok (h : St C F M U E a w) (hU : U nx) {t : TypeId} {l : List SV} {o : Oper} (hl : zeroOf C.P t = some l) (ho : o.op = .alloc t) : EffOk C F M U nx E a w o (.new [] (.cells t l) (.ptr nx 0)) := by
  intro _
  obtain ⟨i, v, hi, hz, hI⟩ := zeroOf_items (E := E) (T := trk C.T0 M E) (w := w) hl
  have hzr : (zeroValue t).run C.P w = .ok v w := by simp [zeroValue, typeInfo, hi, hz]
  refine ⟨_, envWith E nx (some w.heap.size), w.alloc (.cells v.cells t), ?_, .ptr nx 0 w.heap.size (by simp [envWith]), h.new hU ⟨v.cells.toList, ?_, new_items h hU _ _ hI⟩⟩
  · unfold execOp
    simp only [ho, Instr.alloc, Sem.run_bind, hzr, run_newVar, Result.andThen_ok, Sem.run_pure]
  · rw [heap_alloc_new, ← cells_toList]
theorem box_ok (h : St C F M U E a w) (hU : U nx) {t : TypeId} {x : Operand} {s : SV} {l : List SV} {o : Oper} (hs : opd C.Γ F x = some s) (hl : itemsOf (core s) = some l) (ho : o.op = .box t x) : EffOk C F M U nx E a w o (.new (condOf s) (.cells t l) (.ptr nx 0)) := by
  intro hφ
  have hr := condOf_all hφ (opd_rep h.vw hs)
  have hI := hr.items hl
  refine ⟨_, envWith E nx (some w.heap.size), w.alloc (.cells (a.eval x).cells t), ?_, .ptr nx 0 w.heap.size (by simp [envWith]), h.new hU ⟨(a.eval x).cells.toList, ?_, new_items h hU _ _ hI⟩⟩
  · unfold execOp
    simp only [ho, Instr.box, Sem.run_bind, run_newVar, Result.andThen_ok, Sem.run_pure]
  · rw [heap_alloc_new, ← cells_toList]
theorem run_storeVar {t g off n : Nat} {ty : TypeId} {cs : List Value} {v : Value} {w : World} (hb : w.heap[g]? = some (.cells cs.toArray ty (0, 0))) (hn : sizeF P t = some n) (hv : v.cells.toList.length = n) (h1 : ∀ x ∈ v.cells.toList, x.oneCell' = true) (hle : off + n ≤ cs.length) :
    (storeVar t ⟨g, off, none⟩ v).run P w = .ok () (w.setRow g (cs.take off ++ v.cells.toList ++ cs.drop (off + n)).toArray) := by
  have hst := run_storeCells_at (P := P) g off ty v.cells.toList 0 cs.toArray w hb (by simp; simp at hv; omega) h1
  simp only [Nat.add_zero, hv] at hst
  have hsz : v.cells.size = n := by simpa using hv
  simp only [storeVar, Sem.run_bind, run_sizeOf hn, Result.andThen_ok]
  rw [if_neg (by simp [hsz])]
  exact hst
theorem upd_items {M' : Mem} (_h : St C F M U E a w) {id b : Nat} {B B' : Blk} {cs cs' : List Value} {t : TypeId} {l : List SV} {xs : List Value} (hM : upd M id B' = some M') (hf : find M id = some B) (hE : E id = some (some b)) (hb : w.heap[b]? = some (.cells cs.toArray t (0, 0)))
    (hl : cs'.length = cs.length) (hI : Items E (trk C.T0 M E) w l xs) : Items E (trk C.T0 M' E) (w.setRow b cs'.toArray) l xs := by
  refine hI.mono (fun _ _ h => h) (fun x _ hT => ?_) (Chg.setRow hb (.inl ⟨id, B, hf, hE⟩) hl)
  rcases hT with ⟨k, B1, h1, h2⟩ | h0
  · rw [find_upd hM] at h1
    split at h1
    · rename_i e; subst e; exact .inl ⟨k, B, hf, h2⟩
    · exact .inl ⟨k, B1, h1, h2⟩
  · exact .inr h0
theorem store_ok (h : St C F M U E a w) {t : TypeId} {p x : Operand} {sp s : SV} {φ : List Prop} {id : Nat} {B : Blk} {o : Oper} (hp : Rep E (trk C.T0 M E) w sp (a.eval p)) (hx : Rep E (trk C.T0 M E) w s (a.eval x)) (he : storeE C.P M t sp s = some (.upd φ id B none)) (hφ : All φ) (ho : o.op = .store t p x) :
    ∃ M' w', upd M id B = some M' ∧ (execOp a.eval o).run C.P w = .ok .skip w' ∧ St C F M' U E a w' := by
  generalize hvp : a.eval p = vp at hp
  generalize hvx : a.eval x = vx at hx
  unfold storeE at he
  split at he
  case h_2 => cases he
  rename_i xi n hxi hn
  split at he
  case h_2 => cases he
  rename_i hw
  have hIx := hx.items hxi
  have hlen : vx.cells.toList.length = n := by rw [← wI_len hIx]; exact Nat.eq_of_beq_eq_true hw
  have fin : ∀ {off b : Nat} {t' : TypeId} {cs : List Value} {B0 : Blk}, vp = .pointer (some ⟨b, off, none⟩) → find M id = some B0 → E id = some (some b) → w.heap[b]? = some (.cells cs.toArray t' (0, 0)) → off + n ≤ cs.length →
      (∀ M', upd M id B = some M' → BOk E (trk C.T0 M' E) (w.setRow b (cs.take off ++ vx.cells.toList ++ cs.drop (off + n)).toArray) b B) → ∃ M' w', upd M id B = some M' ∧ (execOp a.eval o).run C.P w = .ok .skip w' ∧ St C F M' U E a w' := by
    intro off b t' cs B0 h1 h2 h3 h4 h5 h6
    obtain ⟨M', hM'⟩ := upd_some (B' := B) h2
    refine ⟨M', _, hM', ?_, h.upd_ hM' h2 h3 h4 ?_ (h6 M' hM')⟩
    · have := run_storeVar (P := C.P) h4 hn hlen hIx.ones h5
      unfold execOp
      simp only [ho, hvp, hvx, h1, Instr.storeAt, Instr.sureAddr, Sem.run_bind, Sem.run_pure, Result.andThen_ok, this]
    · simp
      simp at hlen
      omega
  split at he
  · rename_i i' off
    split at he
    · rename_i t' l hf
      split at he
      · rename_i l' hl'
        simp at he
        obtain ⟨rfl, rfl, rfl⟩ := he
        cases hp with
        | ptr _ _ b hE =>
          obtain ⟨hlt, cs, hh, hI⟩ := h.mem.at hf hE
          obtain ⟨hle, hI'⟩ := hI.paste hIx hl'
          refine fin rfl hf hE hh hle fun M' hM' => ⟨_, setRow_heap w b cs.toArray _ t' (0, 0) hh, ?_⟩
          exact upd_items h hM' hf hE hh (by simp; simp at hlen; omega) hI'
      · cases he
    · cases he
  · rename_i i' base sz i j
    split at he
    · rename_i t' e hf
      split at he
      · rename_i hb
        simp only [Bool.and_eq_true] at hb
        have e1 := Nat.eq_of_beq_eq_true hb.1
        have e2 := Nat.eq_of_beq_eq_true hb.2
        subst e1
        subst e2
        split at he
        · rename_i e' he'
          simp at he
          obtain ⟨rfl, rfl, rfl⟩ := he
          have hi := hφ.one
          cases hp with
          | pel _ _ _ _ _ b hE =>
            obtain ⟨hlt, cs, c, hh, hle, hc1, hc2, hc3⟩ := h.mem.at hf hE
            have hm : (i + 1) * e.sz ≤ e.len * e.sz := Nat.mul_le_mul_right _ hi
            rw [Nat.add_mul] at hm
            obtain ⟨k1, k2, k3, c', k4, k5, k6⟩ := setE_ok (base := 0) he' hi hIx hlen ⟨c, hc1, by simpa using hc2, hc3⟩ (by omega)
            refine fin rfl hf hE hh k1 fun M' hM' => ⟨_, c', setRow_heap w b cs.toArray _ t' (0, 0) hh, ?_, k4, by simpa using k5, fun q hq => upd_items h hM' hf hE hh (by simp; simp at hlen; omega) (k6 q hq)⟩
            rw [k2, k3]
            simp
            simp at hlen
            omega
        · cases he
      · cases he
    · rename_i t' l hf
      split at he
      · rename_i m e rest hd
        split at he
        · rename_i hb
          have e2 := Nat.eq_of_beq_eq_true hb
          subst e2
          split at he
          · rename_i e' he'
            split at he
            · rename_i l' hl'
              simp at he
              obtain ⟨rfl, rfl, rfl⟩ := he
              have hi := hφ.one
              cases hp with
              | pel _ _ _ _ _ b hE =>
                obtain ⟨hlt, cs, hh, hI⟩ := h.mem.at hf hE
                obtain ⟨g1, g2⟩ := hI.drop_ hd
                generalize hds : cs.drop base = ds at g2
                cases g2 with
                | one _ _ _ _ h1 => simp [SV.one] at h1
                | arr _ _ _ c1 cs' hr hl =>
                  generalize hv : Value.agg c1.toArray = v at hr
                  cases hr with
                  | arr _ _ cs2 c hn2 hl2 hle2 h1 hc hr =>
                    simp at hv
                    subst hv
                    have hm : (i + 1) * e.sz ≤ e.len * e.sz := Nat.mul_le_mul_right _ hi
                    rw [Nat.add_mul] at hm
                    obtain ⟨k1, k2, k3, c', k4, k5, k6⟩ := setE_ok (base := 0) (cs := c1) he' hi hIx hlen ⟨c, hn2, by simpa using hc, hr⟩ (by omega)
                    have hcl : cs.length = base + (c1.length + cs'.length) := by
                      have := congrArg List.length hds
                      simp at this
                      omega
                    have hrep : Rep E (trk C.T0 M E) w (.arr m e') (.agg (c1.take (0 + i * e.sz + j) ++ vx.cells.toList ++ c1.drop (0 + i * e.sz + j + n)).toArray) := by
                      refine .arr m e' _ c' k4 ?_ (by rw [k2, k3]; exact hle2) ?_ (by simpa using k5) k6
                      · simp
                        simp at hlen
                        omega
                      · intro z hz
                        rcases List.mem_append.1 hz with hz | hz
                        · rcases List.mem_append.1 hz with hz | hz
                          · exact h1 z (List.mem_of_mem_take hz)
                          · exact hIx.ones z hz
                        · exact h1 z (List.mem_of_mem_drop hz)
                    have hIp := hI.paste (.arr m e' [] _ [] hrep .nil) hl'
                    have hoff : base + i * e.sz + j + n ≤ cs.length := by omega
                    have hce : cs.take base ++ ((c1.take (0 + i * e.sz + j) ++ vx.cells.toList ++ c1.drop (0 + i * e.sz + j + n)) ++ []) ++ cs.drop (base + m) = cs.take (base + i * e.sz + j) ++ vx.cells.toList ++ cs.drop (base + i * e.sz + j + n) := by
                      have q1 : cs = cs.take base ++ (c1 ++ cs') := by rw [← hds, List.take_append_drop]
                      have q2 : (cs.take base).length = base := by simp; omega
                      generalize cs.take base = pre at q1 q2 ⊢
                      subst q1
                      have q4 : (pre ++ (c1 ++ cs')).drop (base + m) = cs' := by
                        rw [← q2, ← hl2, List.drop_length_add_append, List.drop_left]
                      rw [q4, List.append_nil, show base + i * e.sz + j = pre.length + (0 + i * e.sz + j) by omega]
                      exact paste_in (by omega)
                    rw [hce] at hIp
                    refine fin rfl hf hE hh hoff fun M' hM' => ⟨_, setRow_heap w b cs.toArray _ t' (0, 0) hh, ?_⟩
                    exact upd_items h hM' hf hE hh (by simp; simp at hlen; omega) hIp.2
            · cases he
          · cases he
        · cases he
      · cases he
    · cases he
  · cases he
end
end Go.Proofs.YtpbgihhfcdggkaaGreatDoor.V
end
section
namespace Go.Proofs.YtpbgihhfcdggkaaGreatDoor.V
open Go.RowKit
section
variable {P : Program} {Γ : Glob} {C : Ctx} {F : Tr} {M : Mem} {U : Nat → Prop} {nx : Nat} {E : Env} {a : Act} {w : World} {T : Nat → Prop}
def Enum : Nat → List (Nat × Value) → List (List Value) → Prop
  | _, [], [] => True
  | k, (j, v) :: vs, x :: xs => j = k ∧ v.cells.toList = x ∧ Enum (k + 1) vs xs
  | _, _, _ => False
theorem Enum.len : ∀ {k : Nat} {vs : List (Nat × Value)} {xs : List (List Value)}, Enum k vs xs → xs.length = vs.length
  | _, [], [], _ => rfl
  | _, _ :: _, _ :: _, h => by have := h.2.2.len; simp [this]
  | _, [], _ :: _, h => h.elim
  | _, _ :: _, [], h => h.elim
theorem fill_enum {sz : Nat} : ∀ {k : Nat} {vs : List (Nat × Value)} {xs : List (List Value)} {cs : List Value}, Enum k vs xs → (∀ x ∈ xs, x.length = sz) → (k + vs.length) * sz ≤ cs.length →
    Instr.fill (fun i => some (i * sz, sz)) cs.toArray vs = some (cs.take (k * sz) ++ xs.flatten ++ cs.drop ((k + vs.length) * sz)).toArray
  | k, [], [], cs, _, _, _ => by simp [Instr.fill]
  | k, (j, v) :: vs, x :: xs, cs, h, hx, hle => by
    obtain ⟨rfl, h2, h3⟩ := h
    have hsz : v.cells.size = sz := by
      have := hx x (List.mem_cons_self ..)
      rw [← h2] at this
      simpa using this
    have e1 : (j + (vs.length + 1)) * sz = j * sz + sz + vs.length * sz := by rw [Nat.add_mul, Nat.add_mul]; omega
    have hxl : x.length = sz := hx x (List.mem_cons_self ..)
    simp only [List.length_cons, e1] at hle
    simp only [Instr.fill]
    rw [if_neg (by simp [hsz]; omega)]
    have hset := foldl_set (j * sz) v.cells.toList 0 cs.toArray (by simp [hsz]; omega)
    simp only [Nat.add_zero] at hset
    have harr : (v.cells.zipIdx.foldl (fun (cs : Array Value) (p : Value × Nat) => cs.setIfInBounds (j * sz + p.2) p.1) cs.toArray) = (cs.take (j * sz) ++ x ++ cs.drop (j * sz + sz)).toArray := by
      apply Array.ext'
      rw [← Array.foldl_toList]
      simpa [hsz, h2, hxl] using hset
    have hl : (cs.take (j * sz)).length = j * sz := by simp; omega
    have hl2 : (cs.take (j * sz) ++ x).length = (j + 1) * sz := by rw [List.length_append, hl, hxl, Nat.add_mul, Nat.one_mul]
    have ih := fill_enum (cs := cs.take (j * sz) ++ x ++ cs.drop (j * sz + sz)) h3 (fun y hy => hx y (List.mem_cons_of_mem _ hy)) (by
      rw [List.length_append, hl2, List.length_drop, Nat.add_mul (j + 1), Nat.add_mul j, Nat.one_mul]; omega)
    refine (congrArg (fun y => Instr.fill (fun i => some (i * sz, sz)) y vs) harr).trans (ih.trans ?_)
    have e2 : (j + 1 + vs.length) * sz = (cs.take (j * sz) ++ x).length + vs.length * sz := by rw [hl2, ← Nat.add_mul]
    have e3 : (j + (vs.length + 1)) * sz = (j * sz + sz) + vs.length * sz := e1
    rw [e2, List.length_cons, e3, List.drop_length_add_append, List.drop_drop, ← hl2, List.take_left]
    simp [List.append_assoc]
  | _, [], _ :: _, _, h, _, _ => h.elim
  | _, _ :: _, [], _, h, _, _ => h.elim
theorem flat_get {sz : Nat} : ∀ {xs : List (List Value)}, (∀ x ∈ xs, x.length = sz) → ∀ {i j : Nat} {v : Value}, i < xs.length → (xs.getD i [])[j]? = some v → xs.flatten[i * sz + j]? = some v
  | [], _, i, j, v, hi, _ => by simp at hi
  | x :: xs, hx, 0, j, v, hi, h => by
    simp at h
    simp only [List.flatten_cons, Nat.zero_mul, Nat.zero_add]
    rw [List.getElem?_append_left (List.getElem?_eq_some_iff.1 h).1]
    exact h
  | x :: xs, hx, i + 1, j, v, hi, h => by
    have hxl := hx x (List.mem_cons_self ..)
    simp only [List.getD_cons_succ] at h
    have := flat_get (fun y hy => hx y (List.mem_cons_of_mem _ hy)) (by simpa using hi) h
    simp only [List.flatten_cons]
    rw [List.getElem?_append_right (by rw [hxl, Nat.add_mul]; omega), hxl, ← this]
    congr 1
    rw [Nat.add_mul]
    omega
theorem flat_len {sz : Nat} : ∀ {xs : List (List Value)}, (∀ x ∈ xs, x.length = sz) → xs.flatten.length = xs.length * sz
  | [], _ => by simp
  | x :: xs, hx => by
    rw [List.flatten_cons, List.length_append, hx x (List.mem_cons_self ..), flat_len (fun y hy => hx y (List.mem_cons_of_mem _ hy)), List.length_cons, Nat.add_mul]
    omega
theorem u8s_enum : ∀ {ps : List (Nat × SV)} {vs : List (Nat × Value)} {k : Nat} {l : List UInt8}, u8s ps k = some l → PartsOk E T w ps vs →
    ∃ xs, Enum k vs xs ∧ xs.length = l.length ∧ (∀ x ∈ xs, x.length = 1) ∧ ∀ i, i < l.length → Items E T w [.int .u8 ((l.getD i 0).toNat : Int)] (xs.getD i [])
  | [], [], k, l, h, _ => by simp [u8s] at h; subst h; exact ⟨[], trivial, rfl, by simp, by simp⟩
  | [], _ :: _, _, _, _, h => h.elim
  | (_, _) :: _, [], _, _, _, h => h.elim
  | (i, s) :: ps, (j, v) :: vs, k, l, h, hp => by
    obtain ⟨rfl, hs, hp'⟩ := hp
    unfold u8s at h
    split at h
    · rename_i e; cases e
    · rename_i i' m r e
      simp at e
      obtain ⟨⟨rfl, rfl⟩, rfl⟩ := e
      split at h
      · rename_i hk
        have := Nat.eq_of_beq_eq_true hk
        subst this
        split at h
        · rename_i l' hl'
          simp at h
          subst h
          obtain ⟨xs, h1, h2, h3, h4⟩ := u8s_enum hl' hp'
          cases hs with
          | int _ _ hr =>
            refine ⟨[.int .u8 m] :: xs, ⟨rfl, rfl, h1⟩, by simp [h2], fun x hx => ?_, fun q hq => ?_⟩
            · rcases List.mem_cons.1 hx with rfl | hx
              · rfl
              · exact h3 x hx
            · cases q with
              | zero =>
                simp only [List.getD_cons_zero]
                rw [u8_back hr]
                exact .one _ _ _ _ rfl (.int _ _ hr) .nil
              | succ q =>
                simp only [List.getD_cons_succ]
                exact h4 q (by simpa using hq)
        · cases h
      · cases h
    · cases h
theorem intS_enum {c : IntKind} : ∀ {ps : List (Nat × SV)} {vs : List (Nat × Value)} {k : Nat} {l : List Int}, intS c ps k = some l → PartsOk E T w ps vs →
    ∃ xs, Enum k vs xs ∧ xs.length = l.length ∧ (∀ x ∈ xs, x.length = 1) ∧ ∀ i, i < l.length → Items E T w [.int c (l.getD i 0)] (xs.getD i [])
  | [], [], k, l, h, _ => by simp [intS] at h; subst h; exact ⟨[], trivial, rfl, by simp, by simp⟩
  | [], _ :: _, _, _, _, h => h.elim
  | (_, _) :: _, [], _, _, _, h => h.elim
  | (i, s) :: ps, (j, v) :: vs, k, l, h, hp => by
    obtain ⟨rfl, hs, hp'⟩ := hp
    unfold intS at h
    split at h
    · rename_i e; cases e
    · rename_i i' q' m r e
      simp at e
      obtain ⟨⟨rfl, rfl⟩, rfl⟩ := e
      split at h
      · rename_i hk
        simp only [Bool.and_eq_true] at hk
        have := Nat.eq_of_beq_eq_true hk.1
        subst this
        have := kindB_eq hk.2
        subst this
        split at h
        · rename_i l' hl'
          simp at h
          subst h
          obtain ⟨xs, h1, h2, h3, h4⟩ := intS_enum hl' hp'
          cases hs with
          | int _ _ hr =>
            refine ⟨[.int c m] :: xs, ⟨rfl, rfl, h1⟩, by simp [h2], fun x hx => ?_, fun q hq => ?_⟩
            · rcases List.mem_cons.1 hx with rfl | hx
              · rfl
              · exact h3 x hx
            · cases q with
              | zero =>
                simp only [List.getD_cons_zero]
                exact .one _ _ _ _ rfl (.int _ _ hr) .nil
              | succ q =>
                simp only [List.getD_cons_succ]
                exact h4 q (by simpa using hq)
        · cases h
      · cases h
    · cases h
theorem elS_enum {sz : Nat} : ∀ {ps : List (Nat × SV)} {vs : List (Nat × Value)} {k : Nat} {l : List (List SV)}, elS sz ps k = some l → PartsOk E T w ps vs →
    ∃ xs, Enum k vs xs ∧ xs.length = l.length ∧ (∀ x ∈ xs, x.length = sz) ∧ ∀ i, i < l.length → Items E T w (nthL l i) (xs.getD i [])
  | [], [], k, l, h, _ => by simp [elS] at h; subst h; exact ⟨[], trivial, rfl, by simp, by simp⟩
  | [], _ :: _, _, _, _, h => h.elim
  | (_, _) :: _, [], _, _, _, h => h.elim
  | (i, s) :: ps, (j, v) :: vs, k, l, h, hp => by
    obtain ⟨rfl, hs, hp'⟩ := hp
    simp only [elS] at h
    split at h
    · rename_i x hx
      split at h
      · rename_i hk
        simp only [Bool.and_eq_true] at hk
        have := Nat.eq_of_beq_eq_true hk.1
        subst this
        split at h
        · rename_i l' hl'
          simp at h
          subst h
          obtain ⟨xs, h1, h2, h3, h4⟩ := elS_enum hl' hp'
          have hI := hs.items hx
          have hlen := wI_len hI
          rw [Nat.eq_of_beq_eq_true hk.2] at hlen
          refine ⟨v.cells.toList :: xs, ⟨rfl, rfl, h1⟩, by simp [h2], fun y hy => ?_, fun q hq => ?_⟩
          · rcases List.mem_cons.1 hy with rfl | hy
            · exact hlen.symm
            · exact h3 y hy
          · cases q with
            | zero => exact hI
            | succ q =>
              simp only [List.getD_cons_succ, nthL]
              exact h4 q (by simpa using hq)
        · cases h
      · cases h
    · cases h
theorem strC_ok : ∀ {l : List SV} {r : List (List UInt8)}, strC l = some r → ∀ i, i < l.length → l.getD i .nili = .str (r.getD i [])
  | [], _, _, i, hi => by simp at hi
  | s :: l, r, h, i, hi => by
    cases s with
    | str s =>
      simp only [strC] at h
      split at h
      · rename_i q hq
        cases h
        cases i with
        | zero => rfl
        | succ i => exact strC_ok hq i (Nat.lt_of_succ_lt_succ hi)
      · cases h
    | _ => simp [strC] at h
theorem intC_ok {q : IntKind} : ∀ {l : List SV} {r : List Int}, intC q l = some r → ∀ i, i < l.length → l.getD i .nili = .int q (r.getD i 0)
  | [], _, _, i, hi => by simp at hi
  | s :: l, r, h, i, hi => by
    cases s with
    | int q' m =>
      simp only [intC] at h
      split at h
      · rename_i hk
        have hk' := kindB_eq hk
        subst hk'
        split at h
        · rename_i x hx
          cases h
          cases i with
          | zero => rfl
          | succ i => exact intC_ok hx i (Nat.lt_of_succ_lt_succ hi)
        · cases h
      · cases h
    | _ => simp [intC] at h
theorem colF_ok {l : List SV} {f : Nat → SV} (h : colF l = some f) : ∀ i, i < l.length → l.getD i .nili = f i := by
  unfold colF at h
  split at h
  · split at h
    · rename_i hq
      cases h
      exact strC_ok hq
    · cases h
  · split at h
    · rename_i hq
      cases h
      exact intC_ok hq
    · cases h
  · cases h
theorem headsL_ok : ∀ {l : List (List SV)} {h : List SV} {t : List (List SV)}, headsL l = some (h, t) → h.length = l.length ∧ t.length = l.length ∧ ∀ i, i < l.length → nthL l i = h.getD i .nili :: nthL t i
  | [], _, _, e => by
    simp [headsL] at e
    obtain ⟨rfl, rfl⟩ := e
    exact ⟨rfl, rfl, fun i hi => by simp at hi⟩
  | [] :: _, _, _, e => by simp [headsL] at e
  | (x :: t) :: r, _, _, e => by
    simp only [headsL] at e
    split at e
    · rename_i h q hq
      cases e
      obtain ⟨h1, h2, h3⟩ := headsL_ok hq
      refine ⟨by simp [h1], by simp [h2], fun i hi => ?_⟩
      cases i with
      | zero => rfl
      | succ i => exact h3 i (Nat.lt_of_succ_lt_succ hi)
    · cases e
theorem allNil_ok : ∀ {l : List (List SV)}, allNil l = true → ∀ i, nthL l i = []
  | [], _, _ => rfl
  | [] :: r, h, i => by
    cases i with
    | zero => rfl
    | succ i => exact allNil_ok (l := r) h i
  | (_ :: _) :: _, h, _ => by simp [allNil] at h
theorem colsF_ok : ∀ {w : Nat} {l : List (List SV)} {f : Nat → List SV}, colsF w l = some f → ∀ i, i < l.length → nthL l i = f i
  | 0, l, f, h, i, _ => by
    simp only [colsF] at h
    split at h
    · rename_i hn
      cases h
      exact allNil_ok hn i
    · cases h
  | w + 1, l, f, h, i, hi => by
    simp only [colsF] at h
    split at h
    · rename_i hh t hq
      split at h
      · rename_i g hg
        split at h
        · rename_i g2 hg2
          cases h
          obtain ⟨h1, h2, h3⟩ := headsL_ok hq
          rw [h3 i hi, colF_ok hg i (by omega), colsF_ok hg2 i (by omega)]
        · cases h
      · cases h
    · cases h
theorem litF_eq (n sz : Nat) (l : List (List SV)) (i : Nat) (hi : i < l.length) : litF n sz l i = nthL l i := by
  unfold litF
  cases Nat.ble 4 n with
  | false => rfl
  | true =>
    cases hf : colsF sz l with
    | none => rfl
    | some f => exact (colsF_ok hf i hi).symm
theorem litE_ok {elem n sz : Nat} {ps : List (Nat × SV)} {vs : List (Nat × Value)} {e : EV} (h : litE P elem n sz ps = some e) (hp : PartsOk E T w ps vs) :
    e.len = n ∧ e.sz = sz ∧ ∃ xs, Enum 0 vs xs ∧ xs.length = n ∧ (∀ x ∈ xs, x.length = sz) ∧ ∀ i, i < n → Items E T w (e.items i) (xs.getD i []) := by
  unfold litE at h
  split at h
  · split at h
    · rename_i l hl
      split at h
      · rename_i hn
        simp only [Bool.and_eq_true] at hn
        have := Nat.eq_of_beq_eq_true hn.1
        subst this
        have := Nat.eq_of_beq_eq_true hn.2
        subst this
        simp at h
        subst h
        obtain ⟨xs, h1, h2, h3, h4⟩ := u8s_enum hl hp
        exact ⟨rfl, rfl, xs, h1, h2, h3, h4⟩
      · cases h
    · cases h
  · split at h
    · rename_i l hl
      split at h
      · rename_i hn
        simp only [Bool.and_eq_true] at hn
        have := Nat.eq_of_beq_eq_true hn.1
        subst this
        have := Nat.eq_of_beq_eq_true hn.2
        subst this
        simp at h
        subst h
        obtain ⟨xs, h1, h2, h3, h4⟩ := intS_enum hl hp
        exact ⟨rfl, rfl, xs, h1, h2, h3, h4⟩
      · cases h
    · cases h
  · split at h
    · rename_i l hl
      split at h
      · rename_i hn
        have := Nat.eq_of_beq_eq_true hn
        subst this
        simp at h
        subst h
        obtain ⟨xs, h1, h2, h3, h4⟩ := elS_enum hl hp
        refine ⟨rfl, rfl, xs, h1, h2, h3, fun i hi => ?_⟩
        show Items E T w (litF l.length sz l i) (xs.getD i [])
        rw [litF_eq _ _ _ _ hi]
        exact h4 i hi
      · cases h
    · cases h
  · cases h
theorem row_new (h : St C F M U E a w) (hU : U nx) {elem : TypeId} {e : EV} {cs : List Value} {c : Nat → List Value} (obj : Obj) (B : Blk) (ho : obj = .cells cs.toArray elem (0, 0)) (hB : B = .row elem e) (h1 : e.len * e.sz ≤ cs.length) (h2 : ∀ i, i < e.len → (c i).length = e.sz)
    (h3 : ∀ i j v, i < e.len → (c i)[j]? = some v → cs[i * e.sz + j]? = some v) (h4 : ∀ i, i < e.len → Items E (trk C.T0 M E) w (e.items i) (c i)) :
    St C F ((nx, B) :: M) (rest U nx) (envWith E nx (some w.heap.size)) a (w.alloc obj) := by
  subst hB
  refine h.new hU ⟨cs, c, ?_, h1, h2, h3, fun i hi => new_items h hU _ _ (h4 i hi)⟩
  rw [heap_alloc_new, ho]
theorem row_rep {E : Env} {T : Nat → Prop} {w : World} {nx sz n b cap : Nat} {elem : TypeId} {cs : List Value} (hE : E nx = some (some b)) (hb : w.heap[b]? = some (.cells cs.toArray elem (0, 0))) (hl : cs.length = cap * sz) (hn : n ≤ cap) (hok : okLen cap) :
    Rep E T w (.row nx 0 sz 0 n) (.slice (some ⟨b, 0, none⟩) n cap) :=
  .row nx 0 sz 0 n b 0 cap cs.length elem hE (by simp [World.shape?, hb]) (fun _ => ⟨by simp, by simp [hl]⟩) hn hok
theorem bind_zero {elem : TypeId} {zv : Value} (h : (P.info? elem).bind (·.zero) = some zv) : ∃ i, P.info? elem = some i ∧ i.zero = some zv := by
  cases hi : P.info? elem with
  | none => rw [hi] at h; cases h
  | some i => rw [hi] at h; exact ⟨i, rfl, h⟩
theorem buildSlice_ok (h : St C F M U E a w) (hU : U nx) {t elem n sz : Nat} {ps : List (Nat × Operand)} {l : List (Nat × SV)} {zv : Value} {e : EV} {o : Oper} (hu : C.P.underlying t = some (.slice elem)) (hs : sizeF C.P elem = some (sz + 1)) (hz : (C.P.info? elem).bind (·.zero) = some zv)
    (hsmall : Nat.ble (n * (sz + 1)) 16777216 = true) (hp : partsF C.Γ F ps = some l) (_hzl : Nat.beq zv.cells.toList.length (sz + 1) = true) (he : litE C.P elem n (sz + 1) l = some e) (ho : o.op = .buildSlice t n ⟨ps⟩) :
    EffOk C F M U nx E a w o (.new [] (.row elem e) (.row nx 0 (sz + 1) 0 n)) := by
  intro _
  have hsm := Nat.le_of_ble_eq_true hsmall
  have hok : okLen n := by
    have : n * 1 ≤ n * (sz + 1) := Nat.mul_le_mul_left _ (by omega)
    unfold okLen
    omega
  obtain ⟨i, hi, hiz⟩ := bind_zero hz
  obtain ⟨i', hi', his⟩ := sizeF_info hs
  rw [hi] at hi'
  cases hi'
  obtain ⟨k1, k2, xs, k3, k4, k5, k6⟩ := litE_ok he (partsF_ok h.vw hp)
  have hfill : ∀ cs : List Value, cs.length = n * (sz + 1) → Instr.fill (fun i => some (i * (sz + 1), sz + 1)) cs.toArray (ps.map fun p => (p.1, a.eval p.2)) = some xs.flatten.toArray := fun cs hcs => by
    have hvl := k3.len
    have := fill_enum (cs := cs) k3 k5 (by rw [hcs, ← hvl, k4, Nat.zero_add]; exact Nat.le_refl _)
    rw [this]
    have e1 : (0 + (ps.map fun p => (p.1, a.eval p.2)).length) * (sz + 1) = cs.length := by rw [hcs, ← hvl, k4, Nat.zero_add]
    rw [e1]
    simp
  have hargs : (Array.map (fun x => match x with | (i, x) => (i, a.eval x)) ⟨ps⟩) = (ps.map fun p => (p.1, a.eval p.2)).toArray := by simp
  have hrun : (execOp a.eval o).run C.P w = .ok (.value (.slice (some ⟨w.heap.size, 0, none⟩) n n)) (w.alloc (.cells xs.flatten.toArray elem)) := by
    have hbs : (Instr.buildSlice t n (ps.map fun p => (p.1, a.eval p.2)).toArray).run C.P w = .ok (.slice (some ⟨w.heap.size, 0, none⟩) n n) (w.alloc (.cells xs.flatten.toArray elem)) := by
      by_cases hn : n * (sz + 1) = 0
      · have hn0 : n = 0 := by
          rcases Nat.mul_eq_zero.1 hn with h | h
          · exact h
          · omega
        subst hn0
        have hf' : Instr.fill (fun i => some (i * (sz + 1), sz + 1)) #[] (ps.map fun p => (p.1, a.eval p.2)) = some xs.flatten.toArray := hfill [] (by simp)
        have hxs : xs = [] := List.eq_nil_of_length_eq_zero k4
        have hps : ps = [] := List.eq_nil_of_length_eq_zero (by have := k3.len; rw [k4] at this; simpa using this.symm)
        subst hxs
        subst hps
        simp [Instr.buildSlice, run_underlying hu, run_sizeOf hs, newRow, Instr.fill, Array.range_zero']
      · have hf := hfill ((Array.range (n * (sz + 1))).map (zv.cells[· % zv.cells.size]!)).toList (by rw [Array.length_toList, Array.size_map, Array.size_range])
        rw [Array.toArray_toList] at hf
        have hs1 : ¬ n * i.size > 2 ^ 24 := by rw [his]; omega
        have hs2 : ¬ n * i.size = 0 := by rw [his]; exact hn
        have hf2 : Instr.fill (fun j => some (j * i.size, i.size)) ((Array.range (n * i.size)).map (zv.cells[· % zv.cells.size]!)) (ps.map fun p => (p.1, a.eval p.2)).toArray.toList = some xs.flatten.toArray := by rw [his]; exact hf
        have hq := run_buildSlice (P := C.P) w t elem n (ps.map fun p => (p.1, a.eval p.2)).toArray xs.flatten.toArray i zv hu hi hiz
        have hq2 := hq hs1
        have hq3 := hq2 hs2
        have hq4 := hq3 hf2
        exact hq4
    unfold execOp
    simp only [ho, hargs, Sem.run_bind, hbs]
    rfl
  refine ⟨_, envWith E nx (some w.heap.size), _, hrun, row_rep (by simp [envWith]) (by rw [heap_alloc_new]) (by rw [flat_len k5, k4]) (Nat.le_refl _) hok, ?_⟩
  refine row_new (cs := xs.flatten) (c := fun i => xs.getD i []) h hU _ _ rfl rfl (by rw [k1, k2, flat_len k5, k4]; exact Nat.le_refl _) (fun i hi => ?_) (fun i j v hi hj => ?_) (fun i hi => k6 i (by rw [← k1]; exact hi))
  · rw [k2]
    rw [k1, ← k4] at hi
    have : xs.getD i [] = xs[i] := by simp [List.getD, List.getElem?_eq_getElem hi]
    rw [this]
    exact k5 _ (List.getElem_mem hi)
  · rw [k2]
    exact flat_get k5 (by rw [k4, ← k1]; exact hi) hj
theorem zeroE_ok {elem n s : Nat} {zv : Value} {e : EV} (h : zeroE P elem zv n = some e) (hs : e.sz = s) (hz : zv.cells.toList.length = s) : e.len = n ∧ ∀ i, i < n → Items E T w (e.items i) zv.cells.toList := by
  unfold zeroE at h
  split at h
  · simp at h
    subst h
    refine ⟨by simp [EV.len], fun i hi => ?_⟩
    simp only [EV.items]
    have : (List.replicate n (0 : UInt8)).getD i 0 = 0 := by simp [List.getD, hi]
    rw [this]
    exact .one _ _ _ _ rfl (.int _ _ (inR_zero .u8)) .nil
  · simp at h
    subst h
    refine ⟨by simp [EV.len], fun i hi => ?_⟩
    simp only [EV.items]
    have : (List.replicate n (0 : Int)).getD i 0 = 0 := by simp [List.getD, hi]
    rw [this]
    exact .one _ _ _ _ rfl (.int _ _ (inR_zero _)) .nil
  · split at h
    · rename_i z hzz
      simp at h
      subst h
      exact ⟨rfl, fun i hi => zeroI_items 200 hzz⟩
    · cases h
theorem madeCells_get {z : Array Value} {m s i j : Nat} {v : Value} (hz : z.toList.length = s) (hi : (i + 1) * s ≤ m) (hj : z.toList[j]? = some v) : (madeCells z m).toList[i * s + j]? = some v := by
  have hjl : j < s := by rw [← hz]; exact (List.getElem?_eq_some_iff.1 hj).1
  have hzs : z.size = s := by simpa using hz
  have hlt : i * s + j < m := by rw [Nat.add_mul] at hi; omega
  have hmod : (i * s + j) % s = j := by rw [Nat.mul_comm, Nat.mul_add_mod, Nat.mod_eq_of_lt hjl]
  have hzj : z[j]? = some v := by simpa using hj
  have : (madeCells z m)[i * s + j]? = some v := by
    simp only [madeCells, Array.getElem?_map, Array.getElem?_range]
    simp only [hlt, if_true, Option.map_some, hzs, hmod, Option.some.injEq]
    rw [getElem!_def, hzj]
  simpa using this
theorem makeSlice_ok (h : St C F M U E a w) (hU : U nx) {t elem sz b : Nat} {l c : Operand} {k k' : IntKind} {n m : Int} {zv : Value} {e : EV} {o : Oper} (hu : C.P.underlying t = some (.slice elem)) (hs : sizeF C.P elem = some (sz + 1)) (hb : bytesF C.P elem = some b)
    (hl : opd C.Γ F l = some (.int k n)) (hc : opd C.Γ F c = some (.int k' m)) (hz : (C.P.info? elem).bind (·.zero) = some zv) (he : zeroE C.P elem zv n.toNat = some e) (hzl : (Nat.beq e.sz (sz + 1) && Nat.beq zv.cells.toList.length (sz + 1)) = true) (ho : o.op = .makeSlice t l c) :
    EffOk C F M U nx E a w o (.new [0 ≤ n ∧ n ≤ m ∧ (b : Int) * m ≤ 281474976710656 ∧ m ≤ 9223372036854775807] (.row elem e) (.row nx 0 (sz + 1) 0 n.toNat)) := by
  intro hφ
  obtain ⟨h0, h1, h2, h3⟩ := hφ.one
  simp only [Bool.and_eq_true] at hzl
  have z1 := Nat.eq_of_beq_eq_true hzl.1
  have z2 := Nat.eq_of_beq_eq_true hzl.2
  obtain ⟨i, hi, hiz⟩ := bind_zero hz
  obtain ⟨i', hi', his⟩ := sizeF_info hs
  rw [hi] at hi'
  cases hi'
  have hby : i.bytes = b := by unfold bytesF at hb; rw [hi] at hb; simpa using hb
  have hel := opd_rep h.vw hl
  have hec := opd_rep h.vw hc
  generalize hlv : a.eval l = lv at hel
  generalize hcv : a.eval c = cv at hec
  cases hel
  cases hec
  obtain ⟨k1, k2⟩ := zeroE_ok (E := E) (T := trk C.T0 M E) (w := w) he z1 z2
  have hrun : (execOp a.eval o).run C.P w = .ok (.value (.slice (some ⟨w.heap.size, 0, none⟩) n.toNat m.toNat)) (w.alloc (.cells (madeCells zv.cells (m.toNat * (sz + 1))) elem)) := by
    have := run_make (P := C.P) w t elem i zv hu hi hiz k k' n m h0 h1 (by rw [hby]; exact h2) h3
    rw [his] at this
    unfold execOp
    simp only [ho, hlv, hcv, Sem.run_bind, this]
    rfl
  have hlen : (madeCells zv.cells (m.toNat * (sz + 1))).toList.length = m.toNat * (sz + 1) := by simp [size_madeCells]
  have hfit : n.toNat ≤ m.toNat := by omega
  refine ⟨_, envWith E nx (some w.heap.size), _, hrun, row_rep (cs := (madeCells zv.cells (m.toNat * (sz + 1))).toList) (by simp [envWith]) (by rw [heap_alloc_new]) hlen hfit (by unfold okLen; omega), ?_⟩
  refine row_new (cs := (madeCells zv.cells (m.toNat * (sz + 1))).toList) (c := fun _ => zv.cells.toList) h hU (.cells (madeCells zv.cells (m.toNat * (sz + 1))) elem) _ (by rw [Array.toArray_toList]) rfl ?_ (fun i hi => by rw [z1]; exact z2) (fun i j v hi hj => ?_) (fun i hi => k2 i (by rw [← k1]; exact hi))
  · rw [k1, z1, hlen]
    exact Nat.mul_le_mul_right _ hfit
  · rw [z1]
    refine madeCells_get z2 ?_ hj
    exact Nat.mul_le_mul_right _ (by omega)
end
end Go.Proofs.YtpbgihhfcdggkaaGreatDoor.V
end
