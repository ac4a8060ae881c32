/-
  From a law's contract in abstract values to its row's step.
-/
import Derived.Test.YtgpggoejkkhceaaDoorVw
import Derived.LaidMore
namespace Go.Proofs.YtgpggoejkkhceaaDoor.V
open Go.RowKit Go.ChangeShapes Go.WideShapes

/-! ### What a representation tells -/
mutual
def factsS : SV → Prop
  | .int k n => inR k n
  | .str l => okLen l.length
  | .agg l => factsL l
  | .arr n e => e.len * e.sz = n ∧ factsE e
  | .ro e => okLen e.len ∧ factsE e
  | .tup l => factsL l
  | _ => True
def factsE : EV → Prop
  | .u8 _ => True
  | .ints k l => ∀ i, i < l.length → inR k (l.getD i 0)
  | .g n _ f => ∀ i, i < n → factsL (f i)
def factsL : List SV → Prop
  | [] => True
  | s :: r => factsS s ∧ factsL r
end
section
variable {E : Env} {T : Nat → Prop} {w : World}
theorem factsE_of {e : EV} (h : ∀ i, i < e.len → factsL (e.items i)) : factsE e := by
  cases e with
  | u8 l => trivial
  | ints k l => exact fun i hi => (h i hi).1
  | g n sz f => exact h
mutual
theorem Rep.facts : ∀ {s : SV} {v : Value}, Rep E T w s v → factsS s
  | _, _, .bool b => trivial
  | _, _, .int _ _ h => h
  | _, _, .str _ h => h
  | _, _, .nilp => trivial
  | _, _, .ptr id off b h => trivial
  | _, _, .pel id base sz i j b h => trivial
  | _, _, .rop e i j b o c hT' hn hc hr hi hj hb => trivial
  | _, _, .nils => trivial
  | _, _, .row id base sz sub len b o c n t h hs ho hl ok => trivial
  | _, _, .row0 id base sz sub len h hl => trivial
  | _, _, .ro0 e h => ⟨by rw [h]; exact Nat.zero_le _, factsE_of fun i hi => by omega⟩
  | _, _, .ro1 e a h => ⟨by rw [h]; exact Nat.zero_le _, factsE_of fun i hi => by omega⟩
  | _, _, .ro e b o n k c hT' hn hc hr he hl ok hb => ⟨by rw [← he]; exact Nat.le_trans hl ok, factsE_of fun i hi => Items.facts (hr i hi)⟩
  | _, _, .agg l cs h => Items.facts h
  | _, _, .arr n e cs c hn hl he h1 hc hr => ⟨he, factsE_of fun i hi => Items.facts (hr i hi)⟩
  | _, _, .tup l vs h => Tup.facts h
  | _, _, .fn _ _ _ _ => trivial
  | _, _, .mv _ _ _ _ => trivial
  | _, _, .ifc t s v h => trivial
  | _, _, .nili => trivial
  | _, _, .nilf => trivial
  | _, _, .may1 _ _ _ _ _ => trivial
  | _, _, .may0 g s h => trivial
  | _, _, .val x => trivial
theorem Items.facts : ∀ {l : List SV} {cs : List Value}, Items E T w l cs → factsL l
  | _, _, .nil => trivial
  | _, _, .one _ _ _ _ _ hr hl => ⟨Rep.facts hr, Items.facts hl⟩
  | _, _, .arr _ _ _ _ _ hr hl => ⟨Rep.facts hr, Items.facts hl⟩
theorem Tup.facts : ∀ {l : List SV} {vs : List Value}, Tup E T w l vs → factsL l
  | _, _, .nil => trivial
  | _, _, .cons s v l vs hr hl => ⟨Rep.facts hr, Tup.facts hl⟩
end
end
theorem u8_iff {n : Int} (h : inR .u8 n) : 0 ≤ n ∧ n ≤ 255 := by simpa [inR, IntKind.min, IntKind.max, IntKind.signed, IntKind.bits] using h
theorem u16_iff {n : Int} (h : inR .u16 n) : 0 ≤ n ∧ n ≤ 65535 := by simpa [inR, IntKind.min, IntKind.max, IntKind.signed, IntKind.bits] using h
theorem u32_iff {n : Int} (h : inR .u32 n) : 0 ≤ n ∧ n ≤ 4294967295 := by simpa [inR, IntKind.min, IntKind.max, IntKind.signed, IntKind.bits] using h
theorem u64_iff {n : Int} (h : inR .u64 n) : 0 ≤ n ∧ n ≤ 18446744073709551615 := by simpa [inR, IntKind.min, IntKind.max, IntKind.signed, IntKind.bits] using h
theorem i8_iff {n : Int} (h : inR .i8 n) : -128 ≤ n ∧ n ≤ 127 := by simpa [inR, IntKind.min, IntKind.max, IntKind.signed, IntKind.bits] using h
theorem i16_iff {n : Int} (h : inR .i16 n) : -32768 ≤ n ∧ n ≤ 32767 := by simpa [inR, IntKind.min, IntKind.max, IntKind.signed, IntKind.bits] using h
theorem i32_iff {n : Int} (h : inR .i32 n) : -2147483648 ≤ n ∧ n ≤ 2147483647 := by simpa [inR, IntKind.min, IntKind.max, IntKind.signed, IntKind.bits] using h
theorem i64_iff {n : Int} (h : inR .i64 n) : -9223372036854775808 ≤ n ∧ n ≤ 9223372036854775807 := by simpa [inR, IntKind.min, IntKind.max, IntKind.signed, IntKind.bits] using h

/-- What needs no table needs none. -/
theorem Fun.weak {P : Program} {Γ : Glob} {f : FuncId} {args : List SV} {res : SV} (h : Fun P [] f args res) : Fun P Γ f args res :=
  fun T w vs hT _ ht => h T w vs hT ⟨fun g e h => by simp [gl] at h, fun g e h => by simp [gl] at h⟩ ht
/-- A contract, by a walk; what the arguments' representation tells is known. -/
theorem Fun.mkF {P : Program} {Γ : Glob} {f : FuncId} {fn : Func} {c : Code} {N : Nat} {args : List SV} {res : SV} {F : Tr} (dep : Nat) (hf : P.funcs[f]? = some fn) (hb : fn.body = some c) (hN : fn.ntmps = N) (hle : Nat.ble args.length N = true) (hF : argT 0 args (Tr.mk dep) = some F)
    (h : factsL args → ∀ (T : Nat → Prop) (w : World), Sat ⟨P, w, fun _ => False, T, Γ, N, [], E0⟩ (bodyPost P fn (Post T w res)) (.code c F [] ids0 [])) : Fun P Γ f args res :=
  fun T w vs hT hG ht => Fun.mk dep hf hb hN hle hF (h ht.facts) T w vs hT hG ht
theorem Fun.facts {P : Program} {Γ : Glob} {f : FuncId} {args : List SV} {res : SV} (h : factsL args → Fun P Γ f args res) : Fun P Γ f args res :=
  fun T w vs hT hG ht => h ht.facts T w vs hT hG ht
/-! ### Arguments -/
section
variable {H : Type}
def svV (P : Program) (t : TypeId) (d : DataW H) : SV :=
  match isAggD (P.underlying t) with
  | some true => match svI P 20 t d with
    | [.arr n e] => .arr n e
    | l => .agg l
  | _ => match svI P 20 t d with
    | [s] => s
    | _ => .nilp
def svsOf (P : Program) : List TypeId → List (DataW H) → List SV
  | t :: ts, d :: ds => svV P t d :: svsOf P ts ds
  | _, _ => []
variable {enc : TypeId × Value → H} {P : Program} {w : World} {T : Nat → Prop}
theorem agg_or {t : TypeId} (h : isAggD (P.underlying t) = some true) : (∃ fs, P.underlying t = some (.struct fs)) ∨ ∃ n e, P.underlying t = some (.array n e) := by
  unfold isAggD at h
  split at h <;> simp at h
  · rename_i fs hu; exact .inl ⟨_, hu⟩
  · rename_i n e hu; exact .inr ⟨_, _, hu⟩
theorem okWide_agg {r : Reach} {base : Nat} {t : TypeId} {v : Value} (h : isAggD (P.underlying t) = some true) (hv : Value.okWide P w r base t v) : ∃ cs, v = .agg cs := by
  unfold Value.okWide at hv
  rcases agg_or h with ⟨fs, hu⟩ | ⟨n, e, hu⟩
  all_goals
    rw [hu] at hv
    obtain ⟨cs, h1, _⟩ := hv
    exact ⟨cs, h1⟩
theorem okWide_cell {r : Reach} {base : Nat} {t : TypeId} {v : Value} (hv : Value.okWide P w r base t v) (h : isAggD (P.underlying t) ≠ some true) : v.cells = #[v] := by
  unfold Value.okWide at hv
  split at hv
  · rename_i fs hu; rw [hu] at h; exact absurd rfl h
  · rename_i n e hu; rw [hu] at h; exact absurd rfl h
  · cases v with
    | agg cs =>
      exfalso
      unfold Cell.okWide at hv
      split at hv
      all_goals first | (rename_i heq; cases heq; done) | skip
      unfold Cell.ok at hv
      split at hv
      all_goals first | (rename_i heq; cases heq; done) | exact hv
    | _ => rfl
theorem svI_one (d : Nat) {t : TypeId} {x : DataW H} (ho : okT P (d + 1) t = true) (hA : isAggD (P.underlying t) ≠ some true) : ∃ s, svI P (d + 1) t x = [s] ∧ s.one = true := by
  simp only [okT] at ho
  simp only [svI]
  split
  · exact ⟨_, rfl, rfl⟩
  · exact ⟨_, rfl, rfl⟩
  · exact ⟨_, rfl, rfl⟩
  · split <;> exact ⟨_, rfl, rfl⟩
  · rename_i hu; rw [hu] at hA; exact absurd rfl hA
  · rename_i hu; rw [hu] at hA; exact absurd rfl hA
  · exfalso
    split at ho <;> simp_all
theorem rep_arg (hT : ∀ b, ¬ T b) {r : Reach} {base : Nat} {t : TypeId} {v : Value} {d : DataW H} {ps : List MemPlace} (ho : okT P 20 t = true) (hv : Value.okWide P w r base t v) (h : DataW.Trod enc P w 0 (fun _ => true) true t v d ps) : Rep E0 T w (svV P t d) v := by
  obtain ⟨fuel, h⟩ := h
  obtain ⟨hl, hI⟩ := trod_items hT 20 fuel ho h
  unfold svV
  split
  · rename_i hA
    obtain ⟨cs, rfl⟩ := okWide_agg hA hv
    simp only [Value.cells] at hI
    split
    · rename_i n e heq
      rw [heq] at hI
      simpa using arr_only hI
    · simpa using Rep.agg _ _ hI
  · rename_i hA
    rw [okWide_cell hv hA] at hI
    obtain ⟨s, e1, e2⟩ := svI_one (P := P) 19 (x := d) ho hA
    rw [e1] at hI ⊢
    obtain ⟨c, r, h1, h2, _⟩ := hI.head e2
    cases h1
    exact h2
theorem nthD_out : ∀ (l : List (DataW H)) (i : Nat), l.length ≤ i → nthD l i = .nil
  | [], _, _ => rfl
  | _ :: _, 0, h => by simp at h
  | _ :: r, i + 1, h => nthD_out r i (by simpa using h)
theorem list_len1 {α : Type} {l : List α} (h : l.length = 1) : ∃ a, l = [a] := List.length_eq_one_iff.1 h
theorem list_len2 {α : Type} {l : List α} (h : l.length = 2) : ∃ a b, l = [a, b] := by
  match l, h with
  | [a, b], _ => exact ⟨a, b, rfl⟩
theorem list_len3 {α : Type} {l : List α} (h : l.length = 3) : ∃ a b c, l = [a, b, c] := by
  match l, h with
  | [a, b, c], _ => exact ⟨a, b, c, rfl⟩
theorem list_len4 {α : Type} {l : List α} (h : l.length = 4) : ∃ a b c d, l = [a, b, c, d] := by
  match l, h with
  | [a, b, c, d], _ => exact ⟨a, b, c, d, rfl⟩
theorem pureL_app : ∀ {l m : List SV}, pureL l → pureL m → pureL (l ++ m)
  | [], _, _, h => h
  | _ :: _, _, h, h' => ⟨h.1, pureL_app h.2 h'⟩
theorem svFs_pure {q : TypeId → DataW H → List SV} (hq : ∀ t x, pureL (q t x)) (l : List (DataW H)) : ∀ (fs : List Field) (i : Nat), pureL (svFs q l fs i)
  | [], _ => trivial
  | ⟨_, _, _, _, _, _, _⟩ :: fs, i => pureL_app (hq _ _) (svFs_pure hq l fs (i + 1))
theorem svEs_pure {q : DataW H → List SV} (hq : ∀ x, pureL (q x)) (l : List (DataW H)) : ∀ (n i : Nat), pureL (svEs q l n i)
  | 0, _ => trivial
  | n + 1, i => pureL_app (hq _) (svEs_pure hq l n (i + 1))
/-- What is given speaks of no block of one's own. -/
theorem svI_pure : ∀ (d : Nat) (t : TypeId) (x : DataW H), pureL (svI P d t x)
  | 0, _, _ => trivial
  | d + 1, t, x => by
    simp only [svI]
    split
    · exact ⟨trivial, trivial⟩
    · exact ⟨trivial, trivial⟩
    · exact ⟨trivial, trivial⟩
    · split
      · exact ⟨trivial, trivial⟩
      · exact ⟨trivial, trivial⟩
      · exact ⟨fun i _ => svI_pure d _ _, trivial⟩
    · exact svFs_pure (svI_pure d) _ _ _
    · split
      · split
        · exact ⟨trivial, trivial⟩
        · exact svEs_pure (svI_pure d _) _ _ _
      · split
        · exact ⟨trivial, trivial⟩
        · exact svEs_pure (svI_pure d _) _ _ _
      · exact svEs_pure (svI_pure d _) _ _ _
    · trivial
theorem tup_args (hT : ∀ b, ¬ T b) {r : Reach} {base : Nat} : ∀ {ts : List TypeId} {vs : List Value} {ds : List (DataW H)} {ps : List MemPlace}, ts.all (okT P 20) = true → (∀ (j : Nat) t v, ts[j]? = some t → vs[j]? = some v → Value.okWide P w r base t v) →
    DataW.TrodAll enc P w 0 (fun _ => true) true ts vs ds ps → ds.length = ts.length ∧ Tup E0 T w (svsOf P ts ds) vs
  | [], _, _, _, _, _, h => by
    obtain ⟨rfl, rfl, rfl⟩ := trodAll_nil h
    exact ⟨rfl, .nil⟩
  | t :: ts, _, _, _, ho, hv, h => by
    obtain ⟨v, vs1, d, ds1, a, b, rfl, rfl, rfl, h1, h2⟩ := trodAll_cons h
    simp only [List.all_cons, Bool.and_eq_true] at ho
    obtain ⟨i1, i2⟩ := tup_args hT ho.2 (fun j t' v' ht hv' => hv (j + 1) t' v' (by simpa using ht) (by simpa using hv')) h2
    exact ⟨by simp [i1], .cons _ _ _ _ (rep_arg hT ho.1 (hv 0 t v rfl rfl) h1) i2⟩

/-- There is an input that fits. -/
theorem row_witness {C : Checked} {os : Os} {f : FuncId} {fn : Func} {s : OpenSpec} {conds : List PathCond} {apart : Bool} {laid : List (String × DataW Unit)} (w0 : World) (args : Array Value) (hos : w0.os = os)
    (hv : (w0.forCall (fun _ _ => 0) ⟨#[], args, []⟩).variablesB C.prog = true)
    (hr : ((w0.forCall (fun _ _ => 0) ⟨#[], args, []⟩).heap.toList.drop C.prog.globals.size).take ((begin C.prog (fun _ _ => 0) default).world.heap.size - C.prog.globals.size) =
      (begin C.prog (fun _ _ => 0) default).world.heap.toList.drop C.prog.globals.size)
    (hok : Input.okWideB C.prog (w0.forCall (fun _ _ => 0) ⟨#[], args, []⟩) f ⟨#[], args, []⟩ = true)
    (hx : ((DataW.whole enc C.prog (w0.forCall (fun _ _ => 0) ⟨#[], args, []⟩).memory fn.params.toList s.vars apart args.toList 20).map fun x => conds.all (PathCond.test C.prog ⟨fn.params.toList, x.1, s.bare.plain.varTypes C.prog, x.2.1⟩) && (match s.cond with | none => true | some k => k H (x.1 ++ x.2.1))) = some true)
    (hsz : s.bare.sizedB enc C.prog fn apart (w0.forCall (fun _ _ => 0) ⟨#[], args, []⟩).memory args 20 = true)
    (hl : laidMetH C.prog laid (w0.forCall (fun _ _ => 0) ⟨#[], args, []⟩).memory) :
    ∃ (w : World) (tape : Tape) (i : Input), w.os = os ∧ (w.forCall tape i).Shaped C.prog ∧ i.vars = [] ∧ Input.okWide C.prog (w.forCall tape i) .any w.heap.size f i ∧
      s.preRow enc C.prog fn conds apart laid (w.forCall tape i).memory i.args ∧ ({} : Assume).holds C.prog (lone (Frame.enter C.prog f i.args .normal) [] (w.forCall tape i)) := by
  refine witness_row_at (enc := enc) (C := C) false w0 args hos hv hr hok ?_
  cases hw : DataW.whole enc C.prog (w0.forCall (fun _ _ => 0) ⟨#[], args, []⟩).memory fn.params.toList s.vars apart args.toList 20 with
  | none => rw [hw] at hx; simp at hx
  | some x =>
    rw [hw] at hx
    simp only [Option.map_some, Option.some.injEq, Bool.and_eq_true] at hx
    refine OpenSpec.preRow_of_cond 20 hw hx.1 (fun k hk => ?_) hsz hl
    have := hx.2
    rw [hk] at this
    exact this

/-- **A law's step.** -/
theorem law_step {C : Checked} {os : Os} {f : FuncId} {fn : Func} {s : OpenSpec} {F : Stop.Interp} {conds : List PathCond} {apart fresh handsOn again : Bool} {laid : List (String × DataW Unit)} {tb : TypeId} (Γ : Glob)
    (own : ownKnob C.prog.godebug = none) (started : os.Started) (noInit : C.prog.inits.idxOf? f = none) (hfn : C.prog.funcs[f]? = some fn)
    (hl : laidOutB C.prog = true) (hts : fn.params.toList.all (fun t => C.prog.readableRec t && decide (t < C.prog.types.size)) = true) (hok : fn.params.toList.all (okT C.prog 20) = true) (hrt : fn.resultTypes = #[tb]) (htb : C.prog.underlying tb = some .bool) (hvars : s.vars = [])
    (hspec : ∀ ds : List (DataW H), ds.length = fn.params.toList.length → s.fn F H ds = { results := [.lit (.bool true)], args := ds })
    (witness : ∃ (w : World) (tape : Tape) (i : Input), w.os = os ∧ (w.forCall tape i).Shaped C.prog ∧ i.vars = [] ∧ Input.okWide C.prog (w.forCall tape i) .any w.heap.size f i ∧
      s.preRow enc C.prog fn conds apart laid (w.forCall tape i).memory i.args ∧ ({} : Assume).holds C.prog (lone (Frame.enter C.prog f i.args .normal) [] (w.forCall tape i)))
    (glob : ∀ W : World, laidMetH C.prog laid W → GOk Γ (fun _ => False) W)
    (law : ∀ (W : World) (vs : List Value) (ds : List (DataW H)), ds.length = fn.params.toList.length → Tup E0 (fun _ => False) W (svsOf C.prog fn.params.toList ds) vs → (∀ k, s.cond = some k → k H ds = true) → Fun C.prog Γ f (svsOf C.prog fn.params.toList ds) (.bool true)) :
    ReturnsInHanded {} C os f .any (s.preRow enc C.prog fn conds apart laid) ((s.at F).post enc C.prog fn apart fresh handsOn again) := by
  refine law_lift own started noInit hfn hl (fun t ht => ?_) hrt htb hvars witness ?_
  · have := List.all_eq_true.1 hts t ht
    simpa using this
  · intro W base args ds ps hval hA _ hcond _ hL _
    obtain ⟨h1, h2⟩ := tup_args (T := fun _ => False) (fun _ h => h) hok (fun j t v ht hv => hval j t v (by simpa using ht) (by simpa using hv)) hA
    refine ⟨hspec ds h1, ?_⟩
    have h3 := law W args.toList ds h1 h2 hcond (fun _ => False) W args.toList (fun _ h => h.elim) (glob W hL) h2
    simp only [Array.toArray_toList] at h3
    refine h3.mono fun e w' ⟨v, he, hr, hb⟩ => ?_
    cases hr
    exact ⟨he, hb⟩
theorem glob_nil {W : World} : GOk [] (fun _ => False) W := ⟨fun g e h => by simp [gl] at h, fun g e h => by simp [gl] at h⟩
end
end Go.Proofs.YtgpggoejkkhceaaDoor.V
