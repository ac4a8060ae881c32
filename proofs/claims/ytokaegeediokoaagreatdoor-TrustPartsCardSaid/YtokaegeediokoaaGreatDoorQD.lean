/-
  Joined texts: MF: Meta: Valid of the program (the contract of name is given).
  MG: Meta: Valid of the program says what Valid of the reference says (plain law).
  MH: Meta: name (the runes of a name).
  MI: Meta: name: the runes of a text and its bytes (plain law).
  MJ: Meta: Plain (names of roles).
  MK: Meta: roots; ValidRoot of the reference.
  ML: Meta: Contains of hashes.
  MM: Meta: rising of roles.
  MN: Meta: the runes of a role's name.
  MS: Meta: ValidRoot of the program.
  MP: Meta: the writing methods of bytes.Buffer, as the engine asks.
  MQ: Meta: Bytes of the program.
  MR: Meta: Bytes of the reference.
  MT: Meta: RootBytes of the program.
  MU: Meta: RootBytes of the reference.
  MV: Meta: the reader of the program.
  MW: Meta: Parse of the program.
  MX: Meta: ParseRoot of the program.
  NP: Meta: what is written is read (plain law).
  TqA: Meta: what is written is read: roots (plain law).
  Bw: Maps from ints to true: sets, hidden in memory.
  TuA: Trust: the role with a name.
  TuB: Trust: how many keys of a role sign.
  Bx: Slices of ints: grown from nil, sorted, compacted.
-/
import Derived.Test.YtokaegeediokoaaGreatDoorQC
import Derived.Shelf.GgClosure.StringsRunes
import Derived.Maps.OwnSet
import Derived.Maps.Views
import Derived.Sort.OwnSortedInts
section
namespace Go.Proofs.YtokaegeediokoaaGreatDoor
open Go.RowKit V
set_option maxRecDepth 100000
set_option maxHeartbeats 8000000
set_option linter.unusedSimpArgs false
attribute [local irreducible] V.Sat V.DSat
theorem indexFunc_part (p : PartL → Bool) (f : FuncId) (hcl : callable Tryz.prog f = true) (hp : ∀ x : PartL, Fun Tryz.prog [] f [x.v] (.bool (p x))) (l : List PartL) : Fun Tryz.prog [] 147 [.ro (partsE l), .fn f []] (.int .i64 (idxL p l 0)) := by
  refine Fun.mkF 6 Tryz.func147 rfl Tryz.ntmps147 rfl rfl fun hf T w0 => ?_
  obtain ⟨⟨hl, _⟩, _⟩ := hf
  dsimp only [EV.len] at hl
  unfold okLen at hl
  repeat' (first
    | ((with_reducible apply Sat.run (X := X64)); exact rfl; (first | exact True.intro | (exact phi) | skip)) | fail)
  apply Sat.loop (α := Nat) (fun x => x ≤ l.length ∧ ∀ i, i < x → p (l.getD i part0) = false) (fun x => l.length - x) 0 (fun x => [(8, .int .i64 (x : Int))]) (fun _ => []) [] [] 0
  · intro x; exact rfl
  · intro x; exact rfl
  · exact rfl
  · exact rfl
  · (repeat' (first | exact AllP.nil | with_reducible refine AllP.cons ?_ ?_)) <;> first | exact rfl | exact trivial | (intro _ _; simp [pureL, pureS, pureE]; done)
  · exact ⟨Nat.zero_le _, fun i hi => by omega⟩
  · rintro x ⟨x1, x2⟩
    have hc := hp (l.getD (x : Int).toNat part0)
    repeat' (first
      | ((with_reducible apply Sat.run (X := X64)); exact rfl; (first | exact True.intro | (exact phi) | skip))
      | ((with_reducible apply Sat.cond_p); exact rfl; all_goals (intro h; (try simp only [V.EV.sub, V.EV.len] at h)))
      | ((with_reducible apply Sat.cond); exact rfl; all_goals (intro h; (try simp only [V.EV.sub, V.EV.len, Bool.cond_true_left, Bool.cond_false_right, Bool.or_eq_true, Bool.and_eq_true, Bool.or_eq_false_iff, Bool.and_eq_false_iff, Bool.not_eq_true', Bool.not_eq_false', decide_eq_true_eq, decide_eq_false_iff_not, ne_eq] at h)))
      | ((with_reducible apply Sat.callR (hc)); exact rfl; exact rfl; exact rfl; exact hcl; (exact cnvX); exact rfl) | fail)
    · (refine Sat.fin (Sat.end1 rfl rfl rfl True.intro (.refl _ purX) (by first | exact .inl rfl | exact .inr rfl) (fun _ h => h)) ?_; (exact congrArg (SV.int .i64) ((idxL_at p part0 l 0 x x2 (by omega) h).trans (by simp))))
    · refine Sat.back (x + 1) [] rfl ?_ ?_ ?_
      · (repeat' (first | exact AllP.nil | with_reducible refine AllP.cons ?_ ?_)) <;> first | exact rfl | exact trivial | exact Int.natCast_add_one _ | (intro _ _; simp [pureL, pureS, pureE]; done)
      · refine ⟨by omega, fun i hi => ?_⟩
        rcases Nat.lt_succ_iff_lt_or_eq.1 hi with h1 | rfl
        · exact x2 i h1
        · exact h
      · omega
    · (refine Sat.fin (Sat.end1 rfl rfl rfl True.intro (.refl _ purX) (by first | exact .inl rfl | exact .inr rfl) (fun _ h => h)) ?_; (exact congrArg (SV.int .i64) (idxL_none p part0 l 0 fun i hi => x2 i (by omega))))
theorem containsFunc_part (p : PartL → Bool) (f : FuncId) (hcl : callable Tryz.prog f = true) (hp : ∀ x : PartL, Fun Tryz.prog [] f [x.v] (.bool (p x))) (l : List PartL) : Fun Tryz.prog [] 79 [.ro (partsE l), .fn f []] (.bool (l.any p)) := by
  have hi := indexFunc_part p f hcl hp l
  refine Fun.mk 6 Tryz.func79 rfl Tryz.ntmps79 rfl rfl fun T w0 => ?_
  repeat' (first
    | ((with_reducible apply Sat.run (X := X64)); exact rfl; (first | exact True.intro | (exact phi) | skip))
    | ((with_reducible apply Sat.callR (hi)); exact rfl; exact rfl; exact rfl; kernel_rfl; (exact cnvX); exact rfl) | fail)
  all_goals (refine Sat.fin (Sat.end1 rfl rfl rfl True.intro (.refl _ purX) (by first | exact .inl rfl | exact .inr rfl) (fun _ h => h)) ?_; (exact congrArg SV.bool (idxL_any p l 0).symm))
theorem partn_spec (hn : ∀ s, Fun Tryz.prog [] 120 [.str s] (.bool (nameB s))) (p : PartL) : Fun Tryz.prog [] 119 [p.v] (.bool (!nameB p.name)) := by
  obtain ⟨n, h⟩ := p
  have hc := hn n
  refine Fun.mk 6 Tryz.func119 rfl Tryz.ntmps119 rfl rfl fun T w0 => ?_
  repeat' (first
    | ((with_reducible apply Sat.run (X := X64)); exact rfl; (first | exact True.intro | (exact phi) | skip))
    | ((with_reducible apply Sat.callR (hc)); exact rfl; exact rfl; exact rfl; kernel_rfl; (exact cnvX); exact rfl) | fail)
  (refine Sat.fin (Sat.end1 rfl rfl rfl True.intro (.refl _ purX) (by first | exact .inl rfl | exact .inr rfl) (fun _ h => h)) ?_; rfl)
def validP (r : Rel) : Bool := inB r.version 1 60000 && (inB r.floor 0 r.version && (inB r.expiry 0 1000000000 && (inB r.size 0 65536 && (inB r.chunks 1 256 && (decide (r.gone.length ≤ 16) && ((!r.gone.any fun n => !inB n 0 1000000000) && (withinB r.gone 0 60000 && ((!r.gone.any fun y => decide (r.version = y)) && (decide (r.parts.length ≤ 8) && ((!r.parts.any fun p => !nameB p.name) && risP r.parts))))))))))
theorem valid_walk (hn : ∀ s, Fun Tryz.prog [] 120 [.str s] (.bool (nameB s))) (r : Rel) : Fun Tryz.prog [] 52 [r.v] (.bool (validP r)) := by
  obtain ⟨v, fl, ex, sz, im, ch, tr, go, pa⟩ := r
  have i1 := in_spec v 1 60000
  have i2 := in_spec fl 0 v
  have i3 := in_spec ex 0 1000000000
  have i4 := in_spec sz 0 65536
  have i5 := in_spec ch 1 256
  have s1 := small_spec go
  have w1 := within_spec go 0 60000
  have c1 := contains_int v go
  have c2 := containsFunc_part (fun p => !nameB p.name) 119 (by kernel_rfl) (partn_spec hn) pa
  have r1 := rising_part pa
  rcases Bool.eq_false_or_eq_true (inB v 1 60000) with h0 | h0 <;> rw [h0] at i1
  rotate_left
  · refine Fun.mkF 7 Tryz.func52 rfl Tryz.ntmps52 rfl rfl fun hf T w0 => ?_
    repeat' (first
      | ((with_reducible apply Sat.run (X := X64)); exact rfl; (first | exact True.intro | (exact phi) | skip))
      | ((with_reducible apply Sat.cond_t); exact rfl)
      | ((with_reducible apply Sat.callR (i1)); exact rfl; exact rfl; exact rfl; kernel_rfl; (exact cnvX); exact rfl) | fail)
    all_goals (refine Sat.fin (Sat.end1 rfl rfl rfl True.intro (.refl _ purX) (by first | exact .inl rfl | exact .inr rfl) (fun _ h => h)) ?_; (refine congrArg SV.bool ?_; unfold validP; simp [h0]))
  rcases Bool.eq_false_or_eq_true (inB fl 0 v) with h1 | h1 <;> rw [h1] at i2
  rotate_left
  · refine Fun.mkF 7 Tryz.func52 rfl Tryz.ntmps52 rfl rfl fun hf T w0 => ?_
    repeat' (first
      | ((with_reducible apply Sat.run (X := X64)); exact rfl; (first | exact True.intro | (exact phi) | skip))
      | ((with_reducible apply Sat.cond_t); exact rfl)
      | ((with_reducible apply Sat.cond_f); exact rfl)
      | ((with_reducible apply Sat.callR (i1)); exact rfl; exact rfl; exact rfl; kernel_rfl; (exact cnvX); exact rfl)
      | ((with_reducible apply Sat.callR (i2)); exact rfl; exact rfl; exact rfl; kernel_rfl; (exact cnvX); exact rfl) | fail)
    all_goals (refine Sat.fin (Sat.end1 rfl rfl rfl True.intro (.refl _ purX) (by first | exact .inl rfl | exact .inr rfl) (fun _ h => h)) ?_; (refine congrArg SV.bool ?_; unfold validP; simp [h1]))
  rcases Bool.eq_false_or_eq_true (inB ex 0 1000000000) with h2 | h2 <;> rw [h2] at i3
  rotate_left
  · refine Fun.mkF 7 Tryz.func52 rfl Tryz.ntmps52 rfl rfl fun hf T w0 => ?_
    repeat' (first
      | ((with_reducible apply Sat.run (X := X64)); exact rfl; (first | exact True.intro | (exact phi) | skip))
      | ((with_reducible apply Sat.cond_t); exact rfl)
      | ((with_reducible apply Sat.cond_f); exact rfl)
      | ((with_reducible apply Sat.callR (i1)); exact rfl; exact rfl; exact rfl; kernel_rfl; (exact cnvX); exact rfl)
      | ((with_reducible apply Sat.callR (i2)); exact rfl; exact rfl; exact rfl; kernel_rfl; (exact cnvX); exact rfl)
      | ((with_reducible apply Sat.callR (i3)); exact rfl; exact rfl; exact rfl; kernel_rfl; (exact cnvX); exact rfl) | fail)
    all_goals (refine Sat.fin (Sat.end1 rfl rfl rfl True.intro (.refl _ purX) (by first | exact .inl rfl | exact .inr rfl) (fun _ h => h)) ?_; (refine congrArg SV.bool ?_; unfold validP; simp [h2]))
  rcases Bool.eq_false_or_eq_true (inB sz 0 65536) with h3 | h3 <;> rw [h3] at i4
  rotate_left
  · refine Fun.mkF 7 Tryz.func52 rfl Tryz.ntmps52 rfl rfl fun hf T w0 => ?_
    repeat' (first
      | ((with_reducible apply Sat.run (X := X64)); exact rfl; (first | exact True.intro | (exact phi) | skip))
      | ((with_reducible apply Sat.cond_t); exact rfl)
      | ((with_reducible apply Sat.cond_f); exact rfl)
      | ((with_reducible apply Sat.callR (i1)); exact rfl; exact rfl; exact rfl; kernel_rfl; (exact cnvX); exact rfl)
      | ((with_reducible apply Sat.callR (i2)); exact rfl; exact rfl; exact rfl; kernel_rfl; (exact cnvX); exact rfl)
      | ((with_reducible apply Sat.callR (i3)); exact rfl; exact rfl; exact rfl; kernel_rfl; (exact cnvX); exact rfl)
      | ((with_reducible apply Sat.callR (i4)); exact rfl; exact rfl; exact rfl; kernel_rfl; (exact cnvX); exact rfl) | fail)
    all_goals (refine Sat.fin (Sat.end1 rfl rfl rfl True.intro (.refl _ purX) (by first | exact .inl rfl | exact .inr rfl) (fun _ h => h)) ?_; (refine congrArg SV.bool ?_; unfold validP; simp [h3]))
  rcases Bool.eq_false_or_eq_true (inB ch 1 256) with h4 | h4 <;> rw [h4] at i5
  rotate_left
  · refine Fun.mkF 7 Tryz.func52 rfl Tryz.ntmps52 rfl rfl fun hf T w0 => ?_
    repeat' (first
      | ((with_reducible apply Sat.run (X := X64)); exact rfl; (first | exact True.intro | (exact phi) | skip))
      | ((with_reducible apply Sat.cond_t); exact rfl)
      | ((with_reducible apply Sat.cond_f); exact rfl)
      | ((with_reducible apply Sat.callR (i1)); exact rfl; exact rfl; exact rfl; kernel_rfl; (exact cnvX); exact rfl)
      | ((with_reducible apply Sat.callR (i2)); exact rfl; exact rfl; exact rfl; kernel_rfl; (exact cnvX); exact rfl)
      | ((with_reducible apply Sat.callR (i3)); exact rfl; exact rfl; exact rfl; kernel_rfl; (exact cnvX); exact rfl)
      | ((with_reducible apply Sat.callR (i4)); exact rfl; exact rfl; exact rfl; kernel_rfl; (exact cnvX); exact rfl)
      | ((with_reducible apply Sat.callR (i5)); exact rfl; exact rfl; exact rfl; kernel_rfl; (exact cnvX); exact rfl) | fail)
    all_goals (refine Sat.fin (Sat.end1 rfl rfl rfl True.intro (.refl _ purX) (by first | exact .inl rfl | exact .inr rfl) (fun _ h => h)) ?_; (refine congrArg SV.bool ?_; unfold validP; simp [h4]))
  by_cases h5 : go.length ≤ 16
  rotate_left
  · refine Fun.mkF 7 Tryz.func52 rfl Tryz.ntmps52 rfl rfl fun hf T w0 => ?_
    repeat' (first
      | ((with_reducible apply Sat.run (X := X64)); exact rfl; (first | exact True.intro | (exact phi) | skip))
      | ((with_reducible apply Sat.cond_f); exact rfl)
      | ((with_reducible apply Sat.cond_pt); exact rfl; (try dsimp only [V.EV.sub, V.EV.len]); first | assumption | omega)
      | ((with_reducible apply Sat.callR (i1)); exact rfl; exact rfl; exact rfl; kernel_rfl; (exact cnvX); exact rfl)
      | ((with_reducible apply Sat.callR (i2)); exact rfl; exact rfl; exact rfl; kernel_rfl; (exact cnvX); exact rfl)
      | ((with_reducible apply Sat.callR (i3)); exact rfl; exact rfl; exact rfl; kernel_rfl; (exact cnvX); exact rfl)
      | ((with_reducible apply Sat.callR (i4)); exact rfl; exact rfl; exact rfl; kernel_rfl; (exact cnvX); exact rfl)
      | ((with_reducible apply Sat.callR (i5)); exact rfl; exact rfl; exact rfl; kernel_rfl; (exact cnvX); exact rfl) | fail)
    all_goals (refine Sat.fin (Sat.end1 rfl rfl rfl True.intro (.refl _ purX) (by first | exact .inl rfl | exact .inr rfl) (fun _ h => h)) ?_; (refine congrArg SV.bool ?_; unfold validP; simp [h5]))
  rcases Bool.eq_false_or_eq_true (go.any fun n => !inB n 0 1000000000) with h6 | h6 <;> rw [h6] at s1
  · refine Fun.mkF 7 Tryz.func52 rfl Tryz.ntmps52 rfl rfl fun hf T w0 => ?_
    repeat' (first
      | ((with_reducible apply Sat.run (X := X64)); exact rfl; (first | exact True.intro | (exact phi) | skip))
      | ((with_reducible apply Sat.cond_t); exact rfl)
      | ((with_reducible apply Sat.cond_f); exact rfl)
      | ((with_reducible apply Sat.cond_pf); exact rfl; (try dsimp only [V.EV.sub, V.EV.len]); first | assumption | omega)
      | ((with_reducible apply Sat.callR (i1)); exact rfl; exact rfl; exact rfl; kernel_rfl; (exact cnvX); exact rfl)
      | ((with_reducible apply Sat.callR (i2)); exact rfl; exact rfl; exact rfl; kernel_rfl; (exact cnvX); exact rfl)
      | ((with_reducible apply Sat.callR (i3)); exact rfl; exact rfl; exact rfl; kernel_rfl; (exact cnvX); exact rfl)
      | ((with_reducible apply Sat.callR (i4)); exact rfl; exact rfl; exact rfl; kernel_rfl; (exact cnvX); exact rfl)
      | ((with_reducible apply Sat.callR (i5)); exact rfl; exact rfl; exact rfl; kernel_rfl; (exact cnvX); exact rfl)
      | ((with_reducible apply Sat.callR (s1)); exact rfl; exact rfl; exact rfl; kernel_rfl; (exact cnvX); exact rfl) | fail)
    all_goals (refine Sat.fin (Sat.end1 rfl rfl rfl True.intro (.refl _ purX) (by first | exact .inl rfl | exact .inr rfl) (fun _ h => h)) ?_; (refine congrArg SV.bool ?_; unfold validP; simp [h6]))
  rcases Bool.eq_false_or_eq_true (withinB go 0 60000) with h7 | h7 <;> rw [h7] at w1
  rotate_left
  · refine Fun.mkF 7 Tryz.func52 rfl Tryz.ntmps52 rfl rfl fun hf T w0 => ?_
    repeat' (first
      | ((with_reducible apply Sat.run (X := X64)); exact rfl; (first | exact True.intro | (exact phi) | skip))
      | ((with_reducible apply Sat.cond_t); exact rfl)
      | ((with_reducible apply Sat.cond_f); exact rfl)
      | ((with_reducible apply Sat.cond_pf); exact rfl; (try dsimp only [V.EV.sub, V.EV.len]); first | assumption | omega)
      | ((with_reducible apply Sat.callR (i1)); exact rfl; exact rfl; exact rfl; kernel_rfl; (exact cnvX); exact rfl)
      | ((with_reducible apply Sat.callR (i2)); exact rfl; exact rfl; exact rfl; kernel_rfl; (exact cnvX); exact rfl)
      | ((with_reducible apply Sat.callR (i3)); exact rfl; exact rfl; exact rfl; kernel_rfl; (exact cnvX); exact rfl)
      | ((with_reducible apply Sat.callR (i4)); exact rfl; exact rfl; exact rfl; kernel_rfl; (exact cnvX); exact rfl)
      | ((with_reducible apply Sat.callR (i5)); exact rfl; exact rfl; exact rfl; kernel_rfl; (exact cnvX); exact rfl)
      | ((with_reducible apply Sat.callR (s1)); exact rfl; exact rfl; exact rfl; kernel_rfl; (exact cnvX); exact rfl)
      | ((with_reducible apply Sat.callR (w1)); exact rfl; exact rfl; exact rfl; kernel_rfl; (exact cnvX); exact rfl) | fail)
    all_goals (refine Sat.fin (Sat.end1 rfl rfl rfl True.intro (.refl _ purX) (by first | exact .inl rfl | exact .inr rfl) (fun _ h => h)) ?_; (refine congrArg SV.bool ?_; unfold validP; simp [h7]))
  rcases Bool.eq_false_or_eq_true (go.any fun y => decide (v = y)) with h8 | h8 <;> rw [h8] at c1
  · refine Fun.mkF 7 Tryz.func52 rfl Tryz.ntmps52 rfl rfl fun hf T w0 => ?_
    repeat' (first
      | ((with_reducible apply Sat.run (X := X64)); exact rfl; (first | exact True.intro | (exact phi) | skip))
      | ((with_reducible apply Sat.cond_t); exact rfl)
      | ((with_reducible apply Sat.cond_f); exact rfl)
      | ((with_reducible apply Sat.cond_pf); exact rfl; (try dsimp only [V.EV.sub, V.EV.len]); first | assumption | omega)
      | ((with_reducible apply Sat.callR (i1)); exact rfl; exact rfl; exact rfl; kernel_rfl; (exact cnvX); exact rfl)
      | ((with_reducible apply Sat.callR (i2)); exact rfl; exact rfl; exact rfl; kernel_rfl; (exact cnvX); exact rfl)
      | ((with_reducible apply Sat.callR (i3)); exact rfl; exact rfl; exact rfl; kernel_rfl; (exact cnvX); exact rfl)
      | ((with_reducible apply Sat.callR (i4)); exact rfl; exact rfl; exact rfl; kernel_rfl; (exact cnvX); exact rfl)
      | ((with_reducible apply Sat.callR (i5)); exact rfl; exact rfl; exact rfl; kernel_rfl; (exact cnvX); exact rfl)
      | ((with_reducible apply Sat.callR (s1)); exact rfl; exact rfl; exact rfl; kernel_rfl; (exact cnvX); exact rfl)
      | ((with_reducible apply Sat.callR (w1)); exact rfl; exact rfl; exact rfl; kernel_rfl; (exact cnvX); exact rfl)
      | ((with_reducible apply Sat.callR (c1)); exact rfl; exact rfl; exact rfl; kernel_rfl; (exact cnvX); exact rfl) | fail)
    all_goals (refine Sat.fin (Sat.end1 rfl rfl rfl True.intro (.refl _ purX) (by first | exact .inl rfl | exact .inr rfl) (fun _ h => h)) ?_; (refine congrArg SV.bool ?_; unfold validP; simp [h8]))
  by_cases h9 : pa.length ≤ 8
  rotate_left
  · refine Fun.mkF 7 Tryz.func52 rfl Tryz.ntmps52 rfl rfl fun hf T w0 => ?_
    repeat' (first
      | ((with_reducible apply Sat.run (X := X64)); exact rfl; (first | exact True.intro | (exact phi) | skip))
      | ((with_reducible apply Sat.cond_f); exact rfl)
      | ((with_reducible apply Sat.cond_pt); exact rfl; (try dsimp only [V.EV.sub, V.EV.len]); first | assumption | omega)
      | ((with_reducible apply Sat.cond_pf); exact rfl; (try dsimp only [V.EV.sub, V.EV.len]); first | assumption | omega)
      | ((with_reducible apply Sat.callR (i1)); exact rfl; exact rfl; exact rfl; kernel_rfl; (exact cnvX); exact rfl)
      | ((with_reducible apply Sat.callR (i2)); exact rfl; exact rfl; exact rfl; kernel_rfl; (exact cnvX); exact rfl)
      | ((with_reducible apply Sat.callR (i3)); exact rfl; exact rfl; exact rfl; kernel_rfl; (exact cnvX); exact rfl)
      | ((with_reducible apply Sat.callR (i4)); exact rfl; exact rfl; exact rfl; kernel_rfl; (exact cnvX); exact rfl)
      | ((with_reducible apply Sat.callR (i5)); exact rfl; exact rfl; exact rfl; kernel_rfl; (exact cnvX); exact rfl)
      | ((with_reducible apply Sat.callR (s1)); exact rfl; exact rfl; exact rfl; kernel_rfl; (exact cnvX); exact rfl)
      | ((with_reducible apply Sat.callR (w1)); exact rfl; exact rfl; exact rfl; kernel_rfl; (exact cnvX); exact rfl)
      | ((with_reducible apply Sat.callR (c1)); exact rfl; exact rfl; exact rfl; kernel_rfl; (exact cnvX); exact rfl) | fail)
    all_goals (refine Sat.fin (Sat.end1 rfl rfl rfl True.intro (.refl _ purX) (by first | exact .inl rfl | exact .inr rfl) (fun _ h => h)) ?_; (refine congrArg SV.bool ?_; unfold validP; simp [h9]))
  rcases Bool.eq_false_or_eq_true (pa.any fun p => !nameB p.name) with h10 | h10 <;> rw [h10] at c2
  · refine Fun.mkF 7 Tryz.func52 rfl Tryz.ntmps52 rfl rfl fun hf T w0 => ?_
    repeat' (first
      | ((with_reducible apply Sat.run (X := X64)); exact rfl; (first | exact True.intro | (exact phi) | skip))
      | ((with_reducible apply Sat.cond_t); exact rfl)
      | ((with_reducible apply Sat.cond_f); exact rfl)
      | ((with_reducible apply Sat.cond_pf); exact rfl; (try dsimp only [V.EV.sub, V.EV.len]); first | assumption | omega)
      | ((with_reducible apply Sat.callR (i1)); exact rfl; exact rfl; exact rfl; kernel_rfl; (exact cnvX); exact rfl)
      | ((with_reducible apply Sat.callR (i2)); exact rfl; exact rfl; exact rfl; kernel_rfl; (exact cnvX); exact rfl)
      | ((with_reducible apply Sat.callR (i3)); exact rfl; exact rfl; exact rfl; kernel_rfl; (exact cnvX); exact rfl)
      | ((with_reducible apply Sat.callR (i4)); exact rfl; exact rfl; exact rfl; kernel_rfl; (exact cnvX); exact rfl)
      | ((with_reducible apply Sat.callR (i5)); exact rfl; exact rfl; exact rfl; kernel_rfl; (exact cnvX); exact rfl)
      | ((with_reducible apply Sat.callR (s1)); exact rfl; exact rfl; exact rfl; kernel_rfl; (exact cnvX); exact rfl)
      | ((with_reducible apply Sat.callR (w1)); exact rfl; exact rfl; exact rfl; kernel_rfl; (exact cnvX); exact rfl)
      | ((with_reducible apply Sat.callR (c1)); exact rfl; exact rfl; exact rfl; kernel_rfl; (exact cnvX); exact rfl)
      | ((with_reducible apply Sat.callR (c2)); exact rfl; exact rfl; exact rfl; kernel_rfl; (exact cnvX); exact rfl) | fail)
    all_goals (refine Sat.fin (Sat.end1 rfl rfl rfl True.intro (.refl _ purX) (by first | exact .inl rfl | exact .inr rfl) (fun _ h => h)) ?_; (refine congrArg SV.bool ?_; unfold validP; simp [h10]))
  refine Fun.mkF 7 Tryz.func52 rfl Tryz.ntmps52 rfl rfl fun hf T w0 => ?_
  repeat' (first
    | ((with_reducible apply Sat.run (X := X64)); exact rfl; (first | exact True.intro | (exact phi) | skip))
    | ((with_reducible apply Sat.cond_f); exact rfl)
    | ((with_reducible apply Sat.cond_pf); exact rfl; (try dsimp only [V.EV.sub, V.EV.len]); first | assumption | omega)
    | ((with_reducible apply Sat.callR (i1)); exact rfl; exact rfl; exact rfl; kernel_rfl; (exact cnvX); exact rfl)
    | ((with_reducible apply Sat.callR (i2)); exact rfl; exact rfl; exact rfl; kernel_rfl; (exact cnvX); exact rfl)
    | ((with_reducible apply Sat.callR (i3)); exact rfl; exact rfl; exact rfl; kernel_rfl; (exact cnvX); exact rfl)
    | ((with_reducible apply Sat.callR (i4)); exact rfl; exact rfl; exact rfl; kernel_rfl; (exact cnvX); exact rfl)
    | ((with_reducible apply Sat.callR (i5)); exact rfl; exact rfl; exact rfl; kernel_rfl; (exact cnvX); exact rfl)
    | ((with_reducible apply Sat.callR (s1)); exact rfl; exact rfl; exact rfl; kernel_rfl; (exact cnvX); exact rfl)
    | ((with_reducible apply Sat.callR (w1)); exact rfl; exact rfl; exact rfl; kernel_rfl; (exact cnvX); exact rfl)
    | ((with_reducible apply Sat.callR (c1)); exact rfl; exact rfl; exact rfl; kernel_rfl; (exact cnvX); exact rfl)
    | ((with_reducible apply Sat.callR (c2)); exact rfl; exact rfl; exact rfl; kernel_rfl; (exact cnvX); exact rfl)
    | ((with_reducible apply Sat.callR (r1)); exact rfl; exact rfl; exact rfl; kernel_rfl; (exact cnvX); exact rfl) | fail)
  all_goals (refine Sat.fin (Sat.end1 rfl rfl rfl True.intro (.refl _ purX) (by first | exact .inl rfl | exact .inr rfl) (fun _ h => h)) ?_; (refine congrArg SV.bool ?_; unfold validP; simp [h0, h1, h2, h3, h4, h5, h6, h7, h8, h9, h10]))
end Go.Proofs.YtokaegeediokoaaGreatDoor
end
section
namespace Go.Proofs.YtokaegeediokoaaGreatDoor
open Go.RowKit V
set_option linter.unusedSimpArgs false
theorem any_false {α : Type} (l : List α) (p : α → Bool) (z : α) : l.any p = false ↔ ∀ i, i < l.length → p (l.getD i z) = false := by
  have h := all_iff l (fun x => !p x) z
  have e : l.any p = false ↔ (l.all fun x => !p x) = true := by
    rw [List.any_eq_false, List.all_eq_true]
    simp
  rw [e, h]
  simp
theorem small_false (l : List Int) (h : (l.any fun n => !inB n 0 1000000000) = true) : risB l 0 60000 = false := by
  refine decide_eq_false fun q => ?_
  have : (l.any fun n => !inB n 0 1000000000) = false := (any_false l _ 0).2 fun i hi => by
    have := (q i hi).1
    unfold inB at this ⊢
    rw [Bool.and_eq_true, decide_eq_true_eq, decide_eq_true_eq] at this
    rw [decide_eq_true (by omega), decide_eq_true (by omega)]
    rfl
  rw [this] at h
  cases h
theorem parts_eq (l : List PartL) : ((!l.any fun p => !nameB p.name) && risP l) = decide (∀ i, i < l.length → PartP l i) := by
  refine Bool.eq_iff_iff.2 ?_
  unfold risP
  simp only [Bool.and_eq_true, Bool.not_eq_true', decide_eq_true_eq]
  rw [any_false l _ part0]
  constructor
  · rintro ⟨h1, h2⟩ i hi
    exact ⟨by simpa using h1 i hi, h2 i hi⟩
  · intro h
    exact ⟨fun i hi => by simpa using (h i hi).1, fun i hi => (h i hi).2⟩
theorem gone_eq (l : List Int) (v : Int) : (!l.any fun y => decide (v = y)) = decide (∀ i, i < l.length → l.getD i 0 ≠ v) := by
  refine Bool.eq_iff_iff.2 ?_
  simp only [Bool.not_eq_true', decide_eq_true_eq]
  rw [any_false l _ 0]
  constructor
  · intro h i hi e
    exact absurd e.symm (of_decide_eq_false (h i hi))
  · intro h i hi
    exact decide_eq_false fun e => h i hi e.symm
theorem valid_eq (r : Rel) : validP r = validB r := by
  unfold validP validB valid1 valid2 valid3 valid4
  rw [← parts_eq, ← gone_eq]
  have hw : ((!r.gone.any fun n => !inB n 0 1000000000) && withinB r.gone 0 60000) = risB r.gone 0 60000 := by
    cases h : (r.gone.any fun n => !inB n 0 1000000000) with
    | true => rw [small_false _ h]; rfl
    | false => rw [within_ris _ _ _ (by rw [h]; rfl)]; rfl
  rw [← hw]
  simp only [Bool.and_assoc]
  cases decide (r.gone.length ≤ 16) <;> cases decide (r.parts.length ≤ 8) <;> simp
end Go.Proofs.YtokaegeediokoaaGreatDoor
end
section
namespace Go.Proofs.YtokaegeediokoaaGreatDoor
open Go.RowKit V
set_option maxRecDepth 100000
set_option maxHeartbeats 8000000
set_option linter.unusedSimpArgs false
def runes_ren : Go.Shelf.Ren := ⟨fun | 15 => 178 | 17 => 130 | 20 => 198 | n => n, fun | 23 => 195 | n => n, fun | n => n⟩
theorem runes_lays : Go.Proofs.LaysGw.n17 Tryz.prog runes_ren := {
  mixed := by kernel_rfl
  f15 := Tryz.func178.trans (congrArg some (by kernel_rfl))
  f17 := Tryz.func130.trans (congrArg some (by kernel_rfl))
  f20 := Tryz.func198.trans (congrArg some (by kernel_rfl))
  t0 := Tryz.underlying0
  a0 := Tryz.isAgg0
  z0 := Tryz.sizeOf0
  v0 := Tryz.zeroValue0
  i0 := by kernel_rfl
  t3 := Tryz.underlying3
  a3 := Tryz.isAgg3
  z3 := Tryz.sizeOf3
  v3 := Tryz.zeroValue3
  i3 := by kernel_rfl
  t4 := Tryz.underlying4
  a4 := Tryz.isAgg4
  z4 := Tryz.sizeOf4
  v4 := Tryz.zeroValue4
  i4 := by kernel_rfl
  t9 := Tryz.underlying9
  a9 := Tryz.isAgg9
  z9 := Tryz.sizeOf9
  v9 := Tryz.zeroValue9
  i9 := by kernel_rfl
  t21 := Tryz.underlying21
  a21 := Tryz.isAgg21
  z21 := Tryz.sizeOf21
  v21 := Tryz.zeroValue21
  i21 := by kernel_rfl
  t23 := Tryz.underlying195
  a23 := Tryz.isAgg195
  z23 := Tryz.sizeOf195
  v23 := Tryz.zeroValue195
  i23 := by kernel_rfl }
def strangeB (x : Nat) : Bool := (decide ((x : Int) < 48) || decide (57 < (x : Int))) && (decide (bits BinOp.or IntKind.i32 (x : Int) 32 < 97) || decide (122 < bits BinOp.or IntKind.i32 (x : Int) 32))
theorem strange_gives (W : World) (x : Nat) (hx : x ≤ 1114111) : FnGives Tryz.prog 172 #[] #[encR x] (.bool (strangeB x)) W := by
  have e : strangeB x = strangeB x := rfl
  conv at e => rhs; unfold strangeB
  unfold FnGives
  rw [e]
  go_enter Tryz.func172, Tryz.ntmps172
  go_wp2
  all_goals (go_ret; refine ⟨?_, 0, ?_⟩)
  all_goals first | rfl | (simp_all; done) | (rw [show decide ((x : Int) < 48) = false from decide_eq_false (by omega), show decide (57 < (x : Int)) = false from decide_eq_false (by omega)]; rfl) | (have a1 : ¬ ((x : Int) < 48) := (by omega); have a2 : ¬ (57 < (x : Int)) := (by omega); simp [a1, a2]) | trace_state
def strangeR (s : List UInt8) : Bool := decide (0 ≤ Lib.idxFunc strangeB true ⟨s.toArray⟩)
theorem containsR (s : List UInt8) : Fun Tryz.prog [] 130 [.str s, .fn 172 []] (.bool (strangeR s)) := by
  intro T w vs hT hG ht
  cases ht with
  | cons s1 v l vs1 hr hl =>
    cases hl with
    | cons s2 v2 l2 vs2 hr2 hl3 =>
      cases hl3
      cases hr
      cases hr2 with
      | fn _ _ us hu =>
        cases hu
        refine (Any.strings_ContainsFunc_runes runes_lays 172 #[] (enters_of Tryz.func172 (by kernel_rfl) rfl) strangeB ⟨s.toArray⟩ w (fun W x hx _ => strange_gives W x hx)).mono ?_
        rintro e w' ⟨rfl, hb⟩
        exact ⟨_, rfl, .bool _, hb⟩
theorem name_walk (s : List UInt8) : Fun Tryz.prog [] 120 [.str s] (.bool (inB s.length 1 12 && !strangeR s)) := by
  have i1 := in_spec s.length 1 12
  have c1 := containsR s
  cases h : inB s.length 1 12 <;> rw [h] at i1
  all_goals
    refine Fun.mkF 6 Tryz.func120 rfl Tryz.ntmps120 rfl rfl fun hf T w0 => ?_
    repeat' (first
      | ((with_reducible apply Sat.run (X := (fun _ => false))); exact rfl; (first | exact True.intro | (exact phi) | skip))
      | ((with_reducible apply Sat.callR (i1)); exact rfl; exact rfl; exact rfl; kernel_rfl; (exact cnv); exact rfl)
      | ((with_reducible apply Sat.gon); exact rfl; first | exact rfl | (decide +kernel))
      | ((with_reducible apply Sat.callR (c1)); exact rfl; exact rfl; exact rfl; kernel_rfl; (exact cnv); exact rfl)
      | ((with_reducible apply Sat.callG1 (c1)); exact rfl; exact rfl; exact rfl; exact rfl; kernel_rfl; (intro hG; (exact cnv)); exact rfl) | fail)
    all_goals (refine Sat.fin (Sat.end1 rfl rfl rfl True.intro (.refl _ pur) (by first | exact .inl rfl | exact .inr rfl) (fun _ h => h)) ?_; rfl)
end Go.Proofs.YtokaegeediokoaaGreatDoor
end
section
namespace Go.Proofs.YtokaegeediokoaaGreatDoor
open Go.RowKit V
set_option maxRecDepth 100000
set_option maxHeartbeats 8000000
set_option linter.unusedSimpArgs false
theorem strange_lo : ∀ x : Nat, x < 128 → strangeB x = !nameC (UInt8.ofNat x) := by decide +kernel
theorem strange_hi (x : Nat) (h : 128 ≤ x) (hx : x ≤ 1114111) : strangeB x = true := by
  unfold strangeB
  have hb : (122 : Int) < bits BinOp.or IntKind.i32 (x : Int) 32 := by
    have e1 : (BitVec.ofInt 32 (x : Int)).toNat = x := by rw [BitVec.toNat_ofInt]; omega
    have h1 : x ≤ x ||| 32 := Nat.left_le_or
    have h2 : x ||| 32 < 2 ^ 21 := Nat.or_lt_two_pow (by omega) (by omega)
    have e2 : (BitVec.ofInt 32 (x : Int) ||| BitVec.ofInt 32 32).toNat = x ||| 32 := by rw [BitVec.toNat_or, e1]; rfl
    have e3 : bits BinOp.or IntKind.i32 (x : Int) 32 = IntKind.i32.wrap ((BitVec.ofInt 32 (x : Int) ||| BitVec.ofInt 32 32).toNat : Int) := rfl
    rw [e3, e2, wrap_inR (k := .i32) (by simp [inR, IntKind.min, IntKind.max, IntKind.signed, IntKind.bits]; omega)]
    omega
  rw [decide_eq_true (p := 57 < (x : Int)) (by omega), decide_eq_true (p := 122 < bits BinOp.or IntKind.i32 (x : Int) 32) hb]
  simp
theorem nameC_hi (b : UInt8) (h : 128 ≤ b.toNat) : nameC b = false := by
  unfold nameC
  rw [decide_eq_false (p := b.toNat ≤ 122) (by omega), decide_eq_false (p := b.toNat ≤ 90) (by omega), decide_eq_false (p := b.toNat ≤ 57) (by omega)]
  simp
theorem decode_lo (s : ByteArray) (i : Nat) (h : (s.get! i).toNat < 128) : Utf8.decode s i = ((s.get! i).toNat, 1) := by
  unfold Utf8.decode
  simp only [Nat.add_zero]
  rw [if_pos h]
theorem decode_hi (s : ByteArray) (i : Nat) (h : ¬ (s.get! i).toNat < 128) : 128 ≤ (Utf8.decode s i).1 := by
  unfold Utf8.decode
  simp only [Nat.add_zero]
  rw [if_neg h]
  split
  · split
    · rename_i h2; exact h2
    · simp [Utf8.runeError]
  · split
    · split
      · rename_i h2; simp only [Bool.and_eq_true, decide_eq_true_eq, ge_iff_le] at h2; omega
      · simp [Utf8.runeError]
    · split
      · split
        · rename_i h2; simp only [Bool.and_eq_true, decide_eq_true_eq, ge_iff_le] at h2; omega
        · simp [Utf8.runeError]
      · simp [Utf8.runeError]
theorem strange_from (l : List UInt8) : ∀ (f pos : Nat), l.length ≤ pos + f → (0 ≤ Lib.idxFuncFrom strangeB true ⟨l.toArray⟩ f pos ↔ ∃ i, pos ≤ i ∧ i < l.length ∧ nameC (l.getD i 0) = false)
  | 0, pos, h => by
    simp only [Lib.idxFuncFrom]
    constructor
    · intro q; omega
    · rintro ⟨i, h1, h2, _⟩; omega
  | f + 1, pos, h => by
    simp only [Lib.idxFuncFrom]
    have hs : (ByteArray.size ⟨l.toArray⟩) = l.length := by simp [ByteArray.size]
    rw [hs]
    by_cases hp : pos < l.length
    · rw [if_pos hp]
      have hg : (ByteArray.get! ⟨l.toArray⟩ pos) = l.getD pos 0 := by
        show l.toArray[pos]! = _
        simp [hp, List.getD]
      by_cases hb : (l.getD pos 0).toNat < 128
      · rw [decode_lo _ _ (by rw [hg]; exact hb), hg]
        dsimp only
        rw [strange_lo _ hb, UInt8.ofNat_toNat]
        cases hc : nameC (l.getD pos 0) with
        | false =>
          rw [if_pos (show (!false) = true from rfl)]
          exact ⟨fun _ => ⟨pos, Nat.le_refl _, hp, hc⟩, fun _ => by omega⟩
        | true =>
          rw [if_neg (by simp), strange_from l f (pos + 1) (by omega)]
          constructor
          · rintro ⟨i, h1, h2, h3⟩; exact ⟨i, by omega, h2, h3⟩
          · rintro ⟨i, h1, h2, h3⟩
            refine ⟨i, ?_, h2, h3⟩
            rcases Nat.lt_or_eq_of_le h1 with h4 | rfl
            · exact h4
            · rw [hc] at h3; cases h3
      · rw [strange_hi _ (decode_hi _ _ (by rw [hg]; exact hb)) (Lib.rune_le _ _), if_pos rfl]
        exact ⟨fun _ => ⟨pos, Nat.le_refl _, hp, nameC_hi _ (by omega)⟩, fun _ => by omega⟩
    · rw [if_neg hp]
      constructor
      · intro q; omega
      · rintro ⟨i, h1, h2, _⟩; omega
theorem strange_eq (s : List UInt8) : (!strangeR s) = s.all nameC := by
  have h := strange_from s s.length 0 (by omega)
  have e : strangeR s = decide (0 ≤ Lib.idxFuncFrom strangeB true ⟨s.toArray⟩ s.length 0) := rfl
  rw [e]
  refine Bool.eq_iff_iff.2 ?_
  rw [all_iff s nameC 0, Bool.not_eq_true', decide_eq_false_iff_not, h]
  constructor
  · intro q i hi
    cases hc : nameC (s.getD i 0) with
    | true => rfl
    | false => exact absurd ⟨i, Nat.zero_le _, hi, hc⟩ q
  · rintro q ⟨i, _, hi, hc⟩
    rw [q i hi] at hc
    cases hc
theorem name_spec (s : List UInt8) : Fun Tryz.prog [] 120 [.str s] (.bool (nameB s)) := by
  have h := name_walk s
  rw [strange_eq, Bool.and_comm] at h
  exact h
theorem valid_spec (r : Rel) : Fun Tryz.prog [] 52 [r.v] (.bool (validB r)) := by
  have h := valid_walk name_spec r
  rw [valid_eq] at h
  exact h
end Go.Proofs.YtokaegeediokoaaGreatDoor
end
section
namespace Go.Proofs.YtokaegeediokoaaGreatDoor
open Go.RowKit V
set_option maxRecDepth 100000
set_option maxHeartbeats 8000000
set_option linter.unusedSimpArgs false
attribute [local irreducible] V.Sat V.DSat
def plainC (c : UInt8) : Bool := decide (32 ≤ c.toNat) && decide (c.toNat ≤ 126)
def plainB (s : List UInt8) : Bool := s.all plainC && inB s.length 1 20
theorem plain_ref (s : List UInt8) : Fun Tryz.prog [] 152 [.str s] (.bool (plainB s)) := by
  refine Fun.mkF 6 Tryz.func152 rfl Tryz.ntmps152 rfl rfl fun hf T w0 => ?_
  obtain ⟨hl, _⟩ := hf
  unfold factsS okLen at hl
  have hin := in_ref s.length 1 20
  repeat' (first
    | ((with_reducible apply Sat.run (X := X64)); exact rfl; (first | exact True.intro | (exact phi) | skip)) | fail)
  apply Sat.loop (α := Nat) (fun x => x ≤ s.length ∧ ∀ i, i < x → plainC (s.getD i 0) = true) (fun x => s.length - x) 0 (fun x => [(3, .int .i64 (x : Int))]) (fun _ => []) [] [] 0
  · intro x; exact rfl
  · intro x; exact rfl
  · exact rfl
  · exact rfl
  · (repeat' (first | exact AllP.nil | with_reducible refine AllP.cons ?_ ?_)) <;> first | exact rfl | exact trivial
  · exact ⟨Nat.zero_le _, fun i hi => by omega⟩
  · rintro x ⟨x1, x2⟩
    have key : plainC (s.getD (x : Int).toNat 0) = true ↔ (32 ≤ ((s.getD (x : Int).toNat 0).toNat : Int) ∧ ((s.getD (x : Int).toNat 0).toNat : Int) ≤ 126) := by
      unfold plainC
      simp only [Bool.and_eq_true, decide_eq_true_eq]
      omega
    repeat' (first
      | ((with_reducible apply Sat.run (X := X64)); exact rfl; (first | exact True.intro | (exact phi) | skip))
      | ((with_reducible apply Sat.cond_p); exact rfl; all_goals (intro h; (try simp only [V.EV.sub, V.EV.len] at h)))
      | ((with_reducible apply Sat.cond); exact rfl; all_goals (intro h; (try simp only [V.EV.sub, V.EV.len, Bool.cond_true_left, Bool.cond_false_right, Bool.or_eq_true, Bool.and_eq_true, Bool.or_eq_false_iff, Bool.and_eq_false_iff, Bool.not_eq_true', Bool.not_eq_false', decide_eq_true_eq, decide_eq_false_iff_not, ne_eq] at h)))
      | ((with_reducible apply Sat.callR (hin)); exact rfl; exact rfl; exact rfl; kernel_rfl; (exact cnv); exact rfl) | fail)
    · (refine Sat.fin (Sat.end1 rfl rfl rfl True.intro (.refl _ pur) (by first | exact .inl rfl | exact .inr rfl) (fun _ h => h)) ?_; (refine congrArg SV.bool ?_; unfold plainB; rw [show s.all plainC = false from Bool.eq_false_iff.2 fun e => by have q := key.1 ((all_iff s plainC 0).1 e x (by omega)); omega]; rfl))
    · refine Sat.back (x + 1) [] rfl ?_ ?_ ?_
      · (repeat' (first | exact AllP.nil | with_reducible refine AllP.cons ?_ ?_)) <;> first | exact rfl | exact trivial | exact Int.natCast_add_one _
      · refine ⟨by omega, fun i hi => ?_⟩
        rcases Nat.lt_succ_iff_lt_or_eq.1 hi with h1 | rfl
        · exact x2 i h1
        · exact key.2 (by omega)
      · omega
    · (refine Sat.fin (Sat.end1 rfl rfl rfl True.intro (.refl _ pur) (by first | exact .inl rfl | exact .inr rfl) (fun _ h => h)) ?_; (refine congrArg SV.bool ?_; unfold plainB; rw [(all_iff s plainC 0).2 fun i hi => x2 i (by omega)]; rfl))
end Go.Proofs.YtokaegeediokoaaGreatDoor
end
section
namespace Go.Proofs.YtokaegeediokoaaGreatDoor
open Go.RowKit V
set_option maxRecDepth 100000
set_option maxHeartbeats 8000000
set_option linter.unusedSimpArgs false
attribute [local irreducible] V.Sat V.DSat
structure RoleL where
  name : List UInt8
  keys : List Int
  need : Int
@[reducible] def role0 : RoleL := ⟨[], [], 0⟩
@[reducible] def rolesE (l : List RoleL) : EV := .g l.length 3 fun i => [.str (l.getD i role0).name, .ro (.ints .i64 (l.getD i role0).keys), .int .i64 (l.getD i role0).need]
@[reducible] def keysE (l : List (List UInt8)) : EV := .g l.length 32 fun i => [.arr 32 (.u8 (l.getD i []))]
structure RootL where
  gen : Int
  expiry : Int
  keys : List (List UInt8)
  roles : List RoleL
@[reducible] def RootL.v (r : RootL) : SV := .agg [.int .i64 r.gen, .int .i64 r.expiry, .ro (keysE r.keys), .ro (rolesE r.roles)]
def root1 (r : RootL) : Bool := inB r.gen 1 1000000 && (inB r.expiry 0 1000000000 && (inB r.keys.length 1 8 && inB r.roles.length 1 8))
def root2 (r : RootL) : Bool := decide (∀ i, i < r.keys.length → ∀ k, k < i → r.keys.getD k [] ≠ r.keys.getD i [])
def RoleP (n : Nat) (l : List RoleL) (i : Nat) : Prop := plainB (l.getD i role0).name = true ∧ (0 < i → Op.bytesLess (l.getD (i - 1) role0).name (l.getD i role0).name = true) ∧ (l.getD i role0).keys.length ≠ 0 ∧ risB (l.getD i role0).keys 0 ((n : Int) - 1) = true ∧ inB (l.getD i role0).need 1 (l.getD i role0).keys.length = true
instance (n : Nat) (l : List RoleL) (i : Nat) : Decidable (RoleP n l i) := by unfold RoleP; infer_instance
def root3 (r : RootL) : Bool := decide (∀ i, i < r.roles.length → RoleP r.keys.length r.roles i)
def rootB (r : RootL) : Bool := root1 r && (root2 r && root3 r)
theorem validRoot_ref (r : RootL) : Fun Tryz.prog [] 85 [r.v] (.bool (rootB r)) := by
  obtain ⟨g, ex, ks, rs⟩ := r
  have i1 := in_ref g 1 1000000
  have i2 := in_ref ex 0 1000000000
  have i3 := in_ref ks.length 1 8
  have i4 := in_ref rs.length 1 8
  refine Fun.mkF 7 Tryz.func85 rfl Tryz.ntmps85 rfl rfl fun hf T w0 => ?_
  repeat' (first
    | ((with_reducible apply Sat.run (X := X64)); exact rfl; (first | exact True.intro | (exact phi) | skip))
    | ((with_reducible apply Sat.cond); exact rfl; all_goals (intro h; (try simp only [V.EV.sub, V.EV.len, Bool.cond_true_left, Bool.cond_false_right, Bool.or_eq_true, Bool.and_eq_true, Bool.or_eq_false_iff, Bool.and_eq_false_iff, Bool.not_eq_true', Bool.not_eq_false', decide_eq_true_eq, decide_eq_false_iff_not, ne_eq] at h)))
    | ((with_reducible apply Sat.callR (i1)); exact rfl; exact rfl; exact rfl; kernel_rfl; (exact cnvX); exact rfl)
    | ((with_reducible apply Sat.callG1 (i2)); exact rfl; exact rfl; exact rfl; exact rfl; kernel_rfl; (intro hG; (exact cnvX)); exact rfl)
    | ((with_reducible apply Sat.callG1 (i3)); exact rfl; exact rfl; exact rfl; exact rfl; kernel_rfl; (intro hG; (exact cnvX)); exact rfl)
    | ((with_reducible apply Sat.callG1 (i4)); exact rfl; exact rfl; exact rfl; exact rfl; kernel_rfl; (intro hG; (exact cnvX)); exact rfl) | fail)
  · (refine Sat.fin (Sat.end1 rfl rfl rfl True.intro (.refl _ purX) (by first | exact .inl rfl | exact .inr rfl) (fun _ h => h)) ?_; (refine congrArg SV.bool ?_; unfold rootB root1; rcases h with ((h | h) | h) | h <;> simp [h]))
  have e1 : root1 ⟨g, ex, ks, rs⟩ = true := by
    obtain ⟨⟨⟨q1, q2⟩, q3⟩, q4⟩ := h
    unfold root1; simp [q1, q2, q3, q4]
  have hk : ks.length ≤ 8 := by
    unfold root1 inB at e1; simp at e1; omega
  have hr : rs.length ≤ 8 := by
    unfold root1 inB at e1; simp at e1; omega
  clear h
  apply Sat.loop (α := Nat) (fun x => x ≤ ks.length ∧ ∀ i, i < x → ∀ k, k < i → ks.getD k [] ≠ ks.getD i []) (fun x => ks.length - x) 0 (fun x => [(3, .int .i64 (x : Int))]) (fun _ => []) [] [] 0
  · intro x; exact rfl
  · intro x; exact rfl
  · exact rfl
  · exact rfl
  · (repeat' (first | exact AllP.nil | with_reducible refine AllP.cons ?_ ?_)) <;> first | exact rfl | exact trivial | exact Int.natCast_add_one _ | (intro _ _; simp [pureL, pureS, pureE]; done) | exact ⟨rfl, rfl, rfl, rfl⟩
  · exact ⟨Nat.zero_le _, fun i hi => by omega⟩
  · rintro x ⟨x1, x2⟩
    repeat' (first
      | ((with_reducible apply Sat.run (X := X64)); exact rfl; (first | exact True.intro | (exact phi) | skip))
      | ((with_reducible apply Sat.cond_p); exact rfl; all_goals (intro h; (try simp only [V.EV.sub, V.EV.len] at h))) | fail)
    · apply Sat.loop (α := Nat) (fun y => y ≤ x ∧ ∀ k, k < y → ks.getD k [] ≠ ks.getD x []) (fun y => x - y) 0 (fun y => [(4, .int .i64 (y : Int))]) (fun _ => []) [] [] 0
      · intro x; exact rfl
      · intro x; exact rfl
      · exact rfl
      · exact rfl
      · (repeat' (first | exact AllP.nil | with_reducible refine AllP.cons ?_ ?_)) <;> first | exact rfl | exact trivial | exact Int.natCast_add_one _ | (intro _ _; simp [pureL, pureS, pureE]; done) | exact ⟨rfl, rfl, rfl, rfl⟩
      · exact ⟨Nat.zero_le _, fun i hi => by omega⟩
      · rintro y ⟨y1, y2⟩
        repeat' (first
          | ((with_reducible apply Sat.run (X := X64)); exact rfl; (first | exact True.intro | (exact phi) | skip))
          | ((with_reducible apply Sat.drawn); kernel_rfl)
          | ((with_reducible apply DSat.run (X := X64)); exact rfl; (first | exact True.intro | (exact phi) | skip))
          | ((with_reducible apply DSat.fin); kernel_rfl)
          | ((with_reducible apply Sat.cond_p); exact rfl; all_goals (intro h; (try simp only [V.EV.sub, V.EV.len] at h))) | fail)
        · (refine Sat.fin (Sat.end1 rfl rfl rfl True.intro (.refl _ purX) (by first | exact .inl rfl | exact .inr rfl) (fun _ h => h)) ?_; (refine congrArg SV.bool ?_; unfold rootB; rw [show root2 ⟨g, ex, ks, rs⟩ = false from decide_eq_false fun e => e x (by show x < ks.length; omega) y (by omega) h]; simp))
        · refine Sat.back (y + 1) [] rfl ?_ ?_ ?_
          · (repeat' (first | exact AllP.nil | with_reducible refine AllP.cons ?_ ?_)) <;> first | exact rfl | exact trivial | exact Int.natCast_add_one _ | (intro _ _; simp [pureL, pureS, pureE]; done) | exact ⟨rfl, rfl, rfl, rfl⟩
          · refine ⟨by omega, fun k hk => ?_⟩
            rcases Nat.lt_succ_iff_lt_or_eq.1 hk with h1 | rfl
            · exact y2 k h1
            · exact h
          · omega
        · refine Sat.back (x + 1) [] rfl ?_ ?_ ?_
          · (repeat' (first | exact AllP.nil | with_reducible refine AllP.cons ?_ ?_)) <;> first | exact rfl | exact trivial | exact Int.natCast_add_one _ | (intro _ _; simp [pureL, pureS, pureE]; done) | exact ⟨rfl, rfl, rfl, rfl⟩
          · refine ⟨by omega, fun i hi => ?_⟩
            rcases Nat.lt_succ_iff_lt_or_eq.1 hi with h1 | rfl
            · exact x2 i h1
            · exact fun k hk => y2 k (by omega)
          · omega
    have e2 : root2 ⟨g, ex, ks, rs⟩ = true := decide_eq_true fun i hi => x2 i (by dsimp only at hi; omega)
    apply Sat.loop (α := Nat) (fun y => y ≤ rs.length ∧ ∀ i, i < y → RoleP ks.length rs i) (fun y => rs.length - y) 0 (fun y => [(5, .int .i64 (y : Int))]) (fun _ => []) [] [] 0
    · intro x; exact rfl
    · intro x; exact rfl
    · exact rfl
    · exact rfl
    · (repeat' (first | exact AllP.nil | with_reducible refine AllP.cons ?_ ?_)) <;> first | exact rfl | exact trivial | exact Int.natCast_add_one _ | (intro _ _; simp [pureL, pureS, pureE]; done) | exact ⟨rfl, rfl, rfl, rfl⟩
    · exact ⟨Nat.zero_le _, fun i hi => by omega⟩
    · rintro y ⟨y1, y2⟩
      have c1 := plain_ref (rs.getD (y : Int).toNat role0).name
      have c2 := rising_ref (rs.getD (y : Int).toNat role0).keys 0 ((ks.length : Int) - 1)
      have c3 := in_ref (rs.getD (y : Int).toNat role0).need 1 (rs.getD (y : Int).toNat role0).keys.length
      have key : RoleP ks.length rs y ↔ ((((plainB (rs.getD (y : Int).toNat role0).name = true ∧ (¬ 0 < (y : Int) ∨ Op.bytesLess (rs.getD ((y : Int) - 1).toNat role0).name (rs.getD (y : Int).toNat role0).name = true)) ∧ ¬ (((rs.getD (y : Int).toNat role0).keys.length : Int) = 0)) ∧ risB (rs.getD (y : Int).toNat role0).keys 0 ((ks.length : Int) - 1) = true) ∧ inB (rs.getD (y : Int).toNat role0).need 1 (rs.getD (y : Int).toNat role0).keys.length = true) := by
        unfold RoleP
        rw [show (y : Int).toNat = y from rfl, show ((y : Int) - 1).toNat = y - 1 by omega]
        rcases Nat.eq_zero_or_pos y with h0 | h0
        · subst h0; simp [and_assoc]
        · have h1 : (0 : Int) < y := by omega
          simp [h0, h1, and_assoc]
      repeat' (first
        | ((with_reducible apply Sat.run (X := X64)); exact rfl; (first | exact True.intro | (exact phi) | skip))
        | ((with_reducible apply Sat.drawn); kernel_rfl)
        | ((with_reducible apply DSat.run (X := X64)); exact rfl; (first | exact True.intro | (exact phi) | skip))
        | ((with_reducible apply DSat.fin); kernel_rfl)
        | ((with_reducible apply Sat.cond_p); exact rfl; all_goals (intro h; (try simp only [V.EV.sub, V.EV.len] at h)))
        | ((with_reducible apply Sat.cond); exact rfl; all_goals (intro h; (try simp only [V.EV.sub, V.EV.len, Bool.cond_true_left, Bool.cond_false_right, Bool.or_eq_true, Bool.and_eq_true, Bool.or_eq_false_iff, Bool.and_eq_false_iff, Bool.not_eq_true', Bool.not_eq_false', decide_eq_true_eq, decide_eq_false_iff_not, ne_eq] at h)))
        | ((with_reducible apply DSat.callR (c1)); exact rfl; exact rfl; exact rfl; kernel_rfl; (exact cnvX); exact rfl)
        | ((with_reducible apply DSat.callG1 (c2)); exact rfl; exact rfl; exact rfl; exact rfl; kernel_rfl; (intro hG; (exact cnvX)); exact rfl)
        | ((with_reducible apply DSat.callG1 (c3)); exact rfl; exact rfl; exact rfl; exact rfl; kernel_rfl; (intro hG; (exact cnvX)); exact rfl) | fail)
      · have e3 : root3 ⟨g, ex, ks, rs⟩ = false := decide_eq_false fun e => by
          obtain ⟨⟨⟨⟨q1, q2⟩, q3⟩, q4⟩, q5⟩ := key.1 (e y (by show y < rs.length; omega))
          rcases h with (((h | h) | h) | h) | h
          · rw [q1] at h; cases h
          · rcases q2 with q2 | q2
            · exact q2 h.1
            · rw [q2] at h; cases h.2
          · exact q3 (of_decide_eq_true h)
          · rw [q4] at h; cases h
          · rw [q5] at h; cases h
        (refine Sat.fin (Sat.end1 rfl rfl rfl True.intro (.refl _ purX) (by first | exact .inl rfl | exact .inr rfl) (fun _ h => h)) ?_; (refine congrArg SV.bool ?_; unfold rootB; rw [e3]; simp))
      · refine Sat.back (y + 1) [] rfl ?_ ?_ ?_
        · (repeat' (first | exact AllP.nil | with_reducible refine AllP.cons ?_ ?_)) <;> first | exact rfl | exact trivial | exact Int.natCast_add_one _ | (intro _ _; simp [pureL, pureS, pureE]; done) | exact ⟨rfl, rfl, rfl, rfl⟩
        · refine ⟨by omega, fun i hi => ?_⟩
          rcases Nat.lt_succ_iff_lt_or_eq.1 hi with h1 | rfl
          · exact y2 i h1
          · exact key.2 ⟨⟨⟨h.1.1.1, of_decide_eq_false h.1.1.2⟩, h.1.2⟩, h.2⟩
        · omega
      · (refine Sat.fin (Sat.end1 rfl rfl rfl True.intro (.refl _ purX) (by first | exact .inl rfl | exact .inr rfl) (fun _ h => h)) ?_; (refine congrArg SV.bool ?_; unfold rootB; rw [e1, e2, show root3 ⟨g, ex, ks, rs⟩ = true from decide_eq_true fun i hi => y2 i (by dsimp only at hi; omega)]; rfl))
end Go.Proofs.YtokaegeediokoaaGreatDoor
end
section
namespace Go.Proofs.YtokaegeediokoaaGreatDoor
open Go.RowKit V
set_option maxRecDepth 100000
set_option maxHeartbeats 8000000
set_option linter.unusedSimpArgs false
attribute [local irreducible] V.Sat V.DSat
theorem index_sum (x : List UInt8) (l : List (List UInt8)) : Fun Tryz.prog [] 177 [.ro (keysE l), .arr 32 (.u8 x)] (.int .i64 (idxL (fun y => decide (x = y)) l 0)) := by
  refine Fun.mkF 6 Tryz.func177 rfl Tryz.ntmps177 rfl rfl fun hf T w0 => ?_
  obtain ⟨⟨hl, _⟩, _⟩ := hf
  dsimp only [EV.len] at hl
  unfold okLen at hl
  repeat' (first
    | ((with_reducible apply Sat.run (X := X64)); exact rfl; (first | exact True.intro | (exact phi) | skip)) | fail)
  apply Sat.loop (α := Nat) (fun y => y ≤ l.length ∧ ∀ i, i < y → decide (x = l.getD i []) = false) (fun x => l.length - x) 0 (fun x => [(8, .int .i64 (x : Int))]) (fun _ => []) [] [] 0
  · intro x; exact rfl
  · intro x; exact rfl
  · exact rfl
  · exact rfl
  · (repeat' (first | exact AllP.nil | with_reducible refine AllP.cons ?_ ?_)) <;> first | exact rfl | exact trivial | (intro _ _; simp [pureL, pureS, pureE]; done)
  · exact ⟨Nat.zero_le _, fun i hi => by omega⟩
  · rintro y ⟨x1, x2⟩
    repeat' (first
      | ((with_reducible apply Sat.run (X := X64)); exact rfl; (first | exact True.intro | (exact phi) | skip))
      | ((with_reducible apply Sat.drawn); kernel_rfl)
      | ((with_reducible apply DSat.run (X := X64)); exact rfl; (first | exact True.intro | (exact phi) | skip))
      | ((with_reducible apply DSat.fin); kernel_rfl)
      | ((with_reducible apply Sat.cond_p); exact rfl; all_goals (intro h; (try simp only [V.EV.sub, V.EV.len] at h))) | fail)
    · (refine Sat.fin (Sat.end1 rfl rfl rfl True.intro (.refl _ purX) (by first | exact .inl rfl | exact .inr rfl) (fun _ h => h)) ?_; (exact congrArg (SV.int .i64) ((idxL_at (fun y => decide (x = y)) [] l 0 y x2 (by omega) (decide_eq_true h)).trans (by simp))))
    · refine Sat.back (y + 1) [] rfl ?_ ?_ ?_
      · (repeat' (first | exact AllP.nil | with_reducible refine AllP.cons ?_ ?_)) <;> first | exact rfl | exact trivial | exact Int.natCast_add_one _ | (intro _ _; simp [pureL, pureS, pureE]; done)
      · refine ⟨by omega, fun i hi => ?_⟩
        rcases Nat.lt_succ_iff_lt_or_eq.1 hi with h1 | rfl
        · exact x2 i h1
        · exact decide_eq_false h
      · omega
    · (refine Sat.fin (Sat.end1 rfl rfl rfl True.intro (.refl _ purX) (by first | exact .inl rfl | exact .inr rfl) (fun _ h => h)) ?_; (exact congrArg (SV.int .i64) (idxL_none (fun y => decide (x = y)) [] l 0 fun i hi => x2 i (by omega))))
theorem contains_sum (x : List UInt8) (l : List (List UInt8)) : Fun Tryz.prog [] 128 [.ro (keysE l), .arr 32 (.u8 x)] (.bool (l.any fun y => decide (x = y))) := by
  have hi := index_sum x l
  refine Fun.mk 6 Tryz.func128 rfl Tryz.ntmps128 rfl rfl fun T w0 => ?_
  repeat' (first
    | ((with_reducible apply Sat.run (X := X64)); exact rfl; (first | exact True.intro | (exact phi) | skip))
    | ((with_reducible apply Sat.callR (hi)); exact rfl; exact rfl; exact rfl; kernel_rfl; (exact cnvX); exact rfl) | fail)
  all_goals (refine Sat.fin (Sat.end1 rfl rfl rfl True.intro (.refl _ purX) (by first | exact .inl rfl | exact .inr rfl) (fun _ h => h)) ?_; (exact congrArg SV.bool (idxL_any _ l 0).symm))
end Go.Proofs.YtokaegeediokoaaGreatDoor
end
section
namespace Go.Proofs.YtokaegeediokoaaGreatDoor
open Go.RowKit V
set_option maxRecDepth 100000
set_option maxHeartbeats 8000000
set_option linter.unusedSimpArgs false
attribute [local irreducible] V.Sat V.DSat
@[reducible] def RoleL.v (p : RoleL) : SV := .agg [.str p.name, .ro (.ints .i64 p.keys), .int .i64 p.need]
theorem rolec_spec (p q : RoleL) : Fun Tryz.prog [] 132 [p.v, q.v] (.int .i64 (Lib.compareBytes p.name q.name)) := by
  obtain ⟨n1, k1, m1⟩ := p
  obtain ⟨n2, k2, m2⟩ := q
  have hc := compare_spec n1 n2
  refine Fun.mk 6 Tryz.func132 rfl Tryz.ntmps132 rfl rfl fun T w0 => ?_
  repeat' (first
    | ((with_reducible apply Sat.run (X := X64)); exact rfl; (first | exact True.intro | (exact phi) | skip))
    | ((with_reducible apply Sat.callR (hc)); exact rfl; exact rfl; exact rfl; kernel_rfl; (exact cnvX); exact rfl) | fail)
  (refine Sat.fin (Sat.end1 rfl rfl rfl True.intro (.refl _ purX) (by first | exact .inl rfl | exact .inr rfl) (fun _ h => h)) ?_; rfl)
def risR (l : List RoleL) : Bool := decide (∀ i, i < l.length → 0 < i → Op.bytesLess (l.getD (i - 1) role0).name (l.getD i role0).name = true)
theorem rising_role (l : List RoleL) : Fun Tryz.prog [] 131 [.ro (rolesE l), .fn 132 []] (.bool (risR l)) := by
  refine Fun.mkF 6 Tryz.func131 rfl Tryz.ntmps131 rfl rfl fun hf T w0 => ?_
  obtain ⟨⟨hl, _⟩, _⟩ := hf
  dsimp only [EV.len] at hl
  unfold okLen at hl
  repeat' (first
    | ((with_reducible apply Sat.run (X := X64)); exact rfl; (first | exact True.intro | (exact phi) | skip)) | fail)
  apply Sat.loop (α := Nat) (fun x => (1 ≤ x ∧ (x ≤ l.length ∨ x = 1)) ∧ ∀ i, i < x → 0 < i → Op.bytesLess (l.getD (i - 1) role0).name (l.getD i role0).name = true) (fun x => l.length + 1 - x) 1 (fun x => [(5, .int .i64 (x : Int))]) (fun _ => []) [] [] 0
  · intro x; exact rfl
  · intro x; exact rfl
  · exact rfl
  · exact rfl
  · (repeat' (first | exact AllP.nil | with_reducible refine AllP.cons ?_ ?_)) <;> first | exact rfl | exact trivial | (intro _ _; simp [pureL, pureS, pureE]; done)
  · exact ⟨⟨Nat.le_refl _, .inr rfl⟩, fun i hi h0 => by omega⟩
  · rintro x ⟨⟨x0, x1⟩, x2⟩
    have hc := rolec_spec (l.getD ((x : Int) - 1).toNat role0) (l.getD (x : Int).toNat role0)
    have e1 : ((x : Int) - 1).toNat = x - 1 := by omega
    have e2 : (x : Int).toNat = x := rfl
    repeat' (first
      | ((with_reducible apply Sat.run (X := X64)); exact rfl; (first | exact True.intro | (exact phi) | skip))
      | ((with_reducible apply Sat.drawn); kernel_rfl)
      | ((with_reducible apply DSat.run (X := X64)); exact rfl; (first | exact True.intro | (exact phi) | skip))
      | ((with_reducible apply DSat.fin); kernel_rfl)
      | ((with_reducible apply Sat.cond_p); exact rfl; all_goals (intro h; (try simp only [V.EV.sub, V.EV.len] at h)))
      | ((with_reducible apply DSat.callR (hc)); exact rfl; exact rfl; exact rfl; kernel_rfl; (exact cnvX); exact rfl) | fail)
    · (refine Sat.fin (Sat.end1 rfl rfl rfl True.intro (.refl _ purX) (by first | exact .inl rfl | exact .inr rfl) (fun _ h => h)) ?_; (rw [e1, e2] at h; exact congrArg SV.bool (decide_eq_false fun e => by have := (cmp_less _ _).2 (e x (by omega) (by omega)); omega)))
    · refine Sat.back (x + 1) [] rfl ?_ ?_ ?_
      · (repeat' (first | exact AllP.nil | with_reducible refine AllP.cons ?_ ?_)) <;> first | exact rfl | exact trivial | exact Int.natCast_add_one _ | (intro _ _; simp [pureL, pureS, pureE]; done)
      · refine ⟨by omega, fun i hi h0 => ?_⟩
        rcases Nat.lt_succ_iff_lt_or_eq.1 hi with h1 | rfl
        · exact x2 i h1 h0
        · rw [e1, e2] at h; exact (cmp_less _ _).1 (by omega)
      · omega
    · (refine Sat.fin (Sat.end1 rfl rfl rfl True.intro (.refl _ purX) (by first | exact .inl rfl | exact .inr rfl) (fun _ h => h)) ?_; (exact congrArg SV.bool (decide_eq_true fun i hi h0 => x2 i (by omega) h0)))
end Go.Proofs.YtokaegeediokoaaGreatDoor
end
section
namespace Go.Proofs.YtokaegeediokoaaGreatDoor
open Go.RowKit V
set_option maxRecDepth 100000
set_option maxHeartbeats 8000000
set_option linter.unusedSimpArgs false
def oddB (x : Nat) : Bool := decide ((x : Int) < 32) || decide (126 < (x : Int))
theorem odd_gives (W : World) (x : Nat) (hx : x ≤ 1114111) : FnGives Tryz.prog 129 #[] #[encR x] (.bool (oddB x)) W := by
  have e : oddB x = oddB x := rfl
  conv at e => rhs; unfold oddB
  unfold FnGives
  rw [e]
  go_enter Tryz.func129, Tryz.ntmps129
  go_wp2
  all_goals (go_ret; refine ⟨?_, 0, ?_⟩)
  all_goals first | rfl | (simp_all; done) | trace_state
def oddR (s : List UInt8) : Bool := decide (0 ≤ Lib.idxFunc oddB true ⟨s.toArray⟩)
theorem containsO (s : List UInt8) : Fun Tryz.prog [] 130 [.str s, .fn 129 []] (.bool (oddR s)) := by
  intro T w vs hT hG ht
  cases ht with
  | cons s1 v l vs1 hr hl =>
    cases hl with
    | cons s2 v2 l2 vs2 hr2 hl3 =>
      cases hl3
      cases hr
      cases hr2 with
      | fn _ _ us hu =>
        cases hu
        refine (Any.strings_ContainsFunc_runes runes_lays 129 #[] (enters_of Tryz.func129 (by kernel_rfl) rfl) oddB ⟨s.toArray⟩ w (fun W x hx _ => odd_gives W x hx)).mono ?_
        rintro e w' ⟨rfl, hb⟩
        exact ⟨_, rfl, .bool _, hb⟩
end Go.Proofs.YtokaegeediokoaaGreatDoor
end
section
namespace Go.Proofs.YtokaegeediokoaaGreatDoor
open Go.RowKit V
set_option maxRecDepth 100000
set_option maxHeartbeats 8000000
set_option linter.unusedSimpArgs false
theorem odd_lo : ∀ x : Nat, x < 128 → oddB x = !plainC (UInt8.ofNat x) := by decide +kernel
theorem odd_hi (x : Nat) (h : 128 ≤ x) : oddB x = true := by
  unfold oddB
  rw [decide_eq_true (p := 126 < (x : Int)) (by omega)]
  simp
theorem plainC_hi (b : UInt8) (h : 128 ≤ b.toNat) : plainC b = false := by
  unfold plainC
  rw [decide_eq_false (p := b.toNat ≤ 126) (by omega)]
  simp
theorem odd_from (l : List UInt8) : ∀ (f pos : Nat), l.length ≤ pos + f → (0 ≤ Lib.idxFuncFrom oddB true ⟨l.toArray⟩ f pos ↔ ∃ i, pos ≤ i ∧ i < l.length ∧ plainC (l.getD i 0) = false)
  | 0, pos, h => by
    simp only [Lib.idxFuncFrom]
    constructor
    · intro q; omega
    · rintro ⟨i, h1, h2, _⟩; omega
  | f + 1, pos, h => by
    simp only [Lib.idxFuncFrom]
    have hs : (ByteArray.size ⟨l.toArray⟩) = l.length := by simp [ByteArray.size]
    rw [hs]
    by_cases hp : pos < l.length
    · rw [if_pos hp]
      have hg : (ByteArray.get! ⟨l.toArray⟩ pos) = l.getD pos 0 := by
        show l.toArray[pos]! = _
        simp [hp, List.getD]
      by_cases hb : (l.getD pos 0).toNat < 128
      · rw [decode_lo _ _ (by rw [hg]; exact hb), hg]
        dsimp only
        rw [odd_lo _ hb, UInt8.ofNat_toNat]
        cases hc : plainC (l.getD pos 0) with
        | false =>
          rw [if_pos (show (!false) = true from rfl)]
          exact ⟨fun _ => ⟨pos, Nat.le_refl _, hp, hc⟩, fun _ => by omega⟩
        | true =>
          rw [if_neg (by simp), odd_from l f (pos + 1) (by omega)]
          constructor
          · rintro ⟨i, h1, h2, h3⟩; exact ⟨i, by omega, h2, h3⟩
          · rintro ⟨i, h1, h2, h3⟩
            refine ⟨i, ?_, h2, h3⟩
            rcases Nat.lt_or_eq_of_le h1 with h4 | rfl
            · exact h4
            · rw [hc] at h3; cases h3
      · rw [odd_hi _ (decode_hi _ _ (by rw [hg]; exact hb)), if_pos rfl]
        exact ⟨fun _ => ⟨pos, Nat.le_refl _, hp, plainC_hi _ (by omega)⟩, fun _ => by omega⟩
    · rw [if_neg hp]
      constructor
      · intro q; omega
      · rintro ⟨i, h1, h2, _⟩; omega
theorem odd_eq (s : List UInt8) : (!oddR s) = s.all plainC := by
  have h := odd_from s s.length 0 (by omega)
  have e : oddR s = decide (0 ≤ Lib.idxFuncFrom oddB true ⟨s.toArray⟩ s.length 0) := rfl
  rw [e]
  refine Bool.eq_iff_iff.2 ?_
  rw [all_iff s plainC 0, Bool.not_eq_true', decide_eq_false_iff_not, h]
  constructor
  · intro q i hi
    cases hc : plainC (s.getD i 0) with
    | true => rfl
    | false => exact absurd ⟨i, Nat.zero_le _, hi, hc⟩ q
  · rintro q ⟨i, _, hi, hc⟩
    rw [q i hi] at hc
    cases hc
attribute [local irreducible] V.Sat V.DSat
theorem ro_ext {E : Env} {T : Nat → Prop} {w : World} {n n' sz : Nat} {f g : Nat → List SV} {v : Value} (hn : n' = n) (h : ∀ i, i < n → f i = g i) (hr : Rep E T w (.ro (.g n' sz f)) v) : Rep E T w (.ro (.g n sz g)) v := by
  subst hn
  cases hr with
  | ro0 _ h0 => exact .ro0 _ h0
  | ro1 _ a h0 => exact .ro1 _ a h0
  | ro _ b o n k c hT hn hc hr he hl ok hb => exact .ro _ b o n k c hT hn hc (fun i hi => by have := hr i hi; simp only [EV.items] at this ⊢; rw [← h i hi]; exact this) he hl ok hb
theorem Fun.ext1 {P : Program} {Γ : Glob} {f : FuncId} {s s' : SV} {args : List SV} {res : SV} (h : Fun P Γ f (s :: args) res) (hs : ∀ (T : Nat → Prop) (w : World) (v : Value), Rep E0 T w s' v → Rep E0 T w s v) : Fun P Γ f (s' :: args) res := by
  intro T w vs hT hG ht
  cases ht with
  | cons _ v _ vs' hr hl => exact h T w _ hT hG (.cons _ _ _ _ (hs T w v hr) hl)
def roleB (n : Nat) (x : RoleL) : Bool := !(!(inB x.name.length 1 20) || oddR x.name || decide ((x.keys.length : Int) = 0) || (x.keys.any fun n => !inB n 0 1000000000) || !(withinB x.keys 0 ((n : Int) - 1)) || !(inB x.need 1 x.keys.length))
def rootQ (r : RootL) : Bool := root1 r && (decide (∀ i, i < r.keys.length → ((r.keys.take i).any fun y => decide (r.keys.getD i [] = y)) = false) && (decide (∀ i, i < r.roles.length → roleB r.keys.length (r.roles.getD i role0) = true) && risR r.roles))
theorem take_keys (ks : List (List UInt8)) (x : Nat) (i : Nat) (hi : i < (ks.take x).length) : [SV.arr 32 (.u8 (ks.getD (0 + i) []))] = [SV.arr 32 (.u8 ((ks.take x).getD i []))] := by
  have h1 : i < x := by simp at hi; omega
  simp [List.getD_eq_getElem?_getD, List.getElem?_take, h1]
theorem rootQ_walk (r : RootL) : Fun Tryz.prog [] 62 [r.v] (.bool (rootQ r)) := by
  obtain ⟨g, ex, ks, rs⟩ := r
  have i1 := in_spec g 1 1000000
  have i2 := in_spec ex 0 1000000000
  have i3 := in_spec ks.length 1 8
  have i4 := in_spec rs.length 1 8
  have hr0 := rising_role rs
  show Fun Tryz.prog [] 62 [.agg [.int .i64 g, .int .i64 ex, .ro (keysE ks), .ro (rolesE rs)]] _
  refine Fun.mkF 7 Tryz.func62 rfl Tryz.ntmps62 rfl rfl fun hf T w0 => ?_
  repeat' (first
    | ((with_reducible apply Sat.run (X := X64)); exact rfl; (first | exact True.intro | (exact phi) | skip))
    | ((with_reducible apply Sat.cond); exact rfl; all_goals (intro h; (try simp only [V.EV.sub, V.EV.len, Bool.cond_true_left, Bool.cond_false_right, Bool.or_eq_true, Bool.and_eq_true, Bool.or_eq_false_iff, Bool.and_eq_false_iff, Bool.not_eq_true', Bool.not_eq_false', decide_eq_true_eq, decide_eq_false_iff_not, ne_eq] at h)))
    | ((with_reducible apply Sat.callR (i1)); exact rfl; exact rfl; exact rfl; kernel_rfl; (exact cnvX); exact rfl)
    | ((with_reducible apply Sat.callG1 (i2)); exact rfl; exact rfl; exact rfl; exact rfl; kernel_rfl; (intro hG; (exact cnvX)); exact rfl)
    | ((with_reducible apply Sat.callG1 (i3)); exact rfl; exact rfl; exact rfl; exact rfl; kernel_rfl; (intro hG; (exact cnvX)); exact rfl)
    | ((with_reducible apply Sat.callG1 (i4)); exact rfl; exact rfl; exact rfl; exact rfl; kernel_rfl; (intro hG; (exact cnvX)); exact rfl) | fail)
  · (refine Sat.fin (Sat.end1 rfl rfl rfl True.intro (.refl _ purX) (by first | exact .inl rfl | exact .inr rfl) (fun _ h => h)) ?_; (refine congrArg SV.bool ?_; unfold rootQ root1; rcases h with ((h | h) | h) | h <;> simp [h]))
  have e1 : root1 ⟨g, ex, ks, rs⟩ = true := by
    obtain ⟨⟨⟨q1, q2⟩, q3⟩, q4⟩ := h
    unfold root1; simp [q1, q2, q3, q4]
  have hk : ks.length ≤ 8 := by
    unfold root1 inB at e1; simp at e1; omega
  have hr : rs.length ≤ 8 := by
    unfold root1 inB at e1; simp at e1; omega
  clear h
  apply Sat.loop (α := Nat) (fun x => x ≤ ks.length ∧ ∀ i, i < x → ((ks.take i).any fun y => decide (ks.getD i [] = y)) = false) (fun x => ks.length - x) 0 (fun x => [(35, .int .i64 (x : Int))]) (fun _ => []) [] [] 0
  · intro x; exact rfl
  · intro x; exact rfl
  · exact rfl
  · exact rfl
  · (repeat' (first | exact AllP.nil | with_reducible refine AllP.cons ?_ ?_)) <;> first | exact rfl | exact trivial | exact Int.natCast_add_one _ | (intro _ _; simp [pureL, pureS, pureE]; done) | exact ⟨rfl, rfl, rfl, rfl⟩
  · exact ⟨Nat.zero_le _, fun i hi => by omega⟩
  · rintro x ⟨x1, x2⟩
    have hc0 := contains_sum (ks.getD (x : Int).toNat []) (ks.take x)
    have hc : Fun Tryz.prog [] 128 [.ro (.g ((x : Int).toNat - 0) 32 fun i => [.arr 32 (.u8 (ks.getD (0 + i) []))]), .arr 32 (.u8 (ks.getD (x : Int).toNat []))] (.bool ((ks.take x).any fun y => decide (ks.getD (x : Int).toNat [] = y))) :=
      Fun.ext1 hc0 fun T w v hr => ro_ext (by simp; omega) (take_keys ks x) hr
    clear hc0
    repeat' (first
      | ((with_reducible apply Sat.run (X := X64)); exact rfl; (first | exact True.intro | (exact phi) | skip))
      | ((with_reducible apply Sat.drawn); kernel_rfl)
      | ((with_reducible apply DSat.run (X := X64)); exact rfl; (first | exact True.intro | (exact phi) | skip))
      | ((with_reducible apply DSat.fin); kernel_rfl)
      | ((with_reducible apply Sat.cond_p); exact rfl; all_goals (intro h; (try simp only [V.EV.sub, V.EV.len] at h)))
      | ((with_reducible apply Sat.cond); exact rfl; all_goals (intro h; (try simp only [V.EV.sub, V.EV.len, Bool.cond_true_left, Bool.cond_false_right, Bool.or_eq_true, Bool.and_eq_true, Bool.or_eq_false_iff, Bool.and_eq_false_iff, Bool.not_eq_true', Bool.not_eq_false', decide_eq_true_eq, decide_eq_false_iff_not, ne_eq] at h)))
      | ((with_reducible apply DSat.callR (hc)); exact rfl; exact rfl; exact rfl; kernel_rfl; (exact cnvX); exact rfl) | fail)
    · have hx : x < ks.length := by omega
      have q : ¬ ∀ i, i < ks.length → ((ks.take i).any fun y => decide (ks.getD i [] = y)) = false := fun e => by
        have q2 := e x hx
        rw [show (x : Int).toNat = x from rfl, q2] at h
        cases h
      (refine Sat.fin (Sat.end1 rfl rfl rfl True.intro (.refl _ purX) (by first | exact .inl rfl | exact .inr rfl) (fun _ h => h)) ?_; (refine congrArg SV.bool ?_; unfold rootQ; rw [decide_eq_false q]; simp))
    · refine Sat.back (x + 1) [] rfl ?_ ?_ ?_
      · (repeat' (first | exact AllP.nil | with_reducible refine AllP.cons ?_ ?_)) <;> first | exact rfl | exact trivial | exact Int.natCast_add_one _ | (intro _ _; simp [pureL, pureS, pureE]; done) | exact ⟨rfl, rfl, rfl, rfl⟩
      · refine ⟨by omega, fun i hi => ?_⟩
        rcases Nat.lt_succ_iff_lt_or_eq.1 hi with h1 | rfl
        · exact x2 i h1
        · exact h
      · omega
    have e2 : decide (∀ i, i < ks.length → ((ks.take i).any fun y => decide (ks.getD i [] = y)) = false) = true := decide_eq_true fun i hi => x2 i (by omega)
    clear hc
    apply Sat.loop (α := Nat) (fun x => x ≤ rs.length ∧ ∀ i, i < x → roleB ks.length (rs.getD i role0) = true) (fun x => rs.length - x) 0 (fun x => [(50, .int .i64 (x : Int))]) (fun _ => []) [] [] 0
    · intro x; exact rfl
    · intro x; exact rfl
    · exact rfl
    · exact rfl
    · (repeat' (first | exact AllP.nil | with_reducible refine AllP.cons ?_ ?_)) <;> first | exact rfl | exact trivial | exact Int.natCast_add_one _ | (intro _ _; simp [pureL, pureS, pureE]; done) | exact ⟨rfl, rfl, rfl, rfl⟩
    · exact ⟨Nat.zero_le _, fun i hi => by omega⟩
    · rintro y ⟨y1, y2⟩
      have j1 := in_spec (rs.getD (y : Int).toNat role0).name.length 1 20
      have j2 := containsO (rs.getD (y : Int).toNat role0).name
      have j3 := small_spec (rs.getD (y : Int).toNat role0).keys
      have j4 := within_spec (rs.getD (y : Int).toNat role0).keys 0 ((ks.length : Int) - 1)
      have j5 := in_spec (rs.getD (y : Int).toNat role0).need 1 (rs.getD (y : Int).toNat role0).keys.length
      repeat' (first
        | ((with_reducible apply Sat.run (X := X64)); exact rfl; (first | exact True.intro | (exact phi) | skip))
        | ((with_reducible apply Sat.cond_p); exact rfl; all_goals (intro h; (try simp only [V.EV.sub, V.EV.len] at h)))
        | ((with_reducible apply Sat.cond); exact rfl; all_goals (intro h; (try simp only [V.EV.sub, V.EV.len, Bool.cond_true_left, Bool.cond_false_right, Bool.or_eq_true, Bool.and_eq_true, Bool.or_eq_false_iff, Bool.and_eq_false_iff, Bool.not_eq_true', Bool.not_eq_false', decide_eq_true_eq, decide_eq_false_iff_not, ne_eq] at h)))
        | ((with_reducible apply Sat.callR (j1)); exact rfl; exact rfl; exact rfl; kernel_rfl; (exact cnvX); exact rfl)
        | ((with_reducible apply Sat.callG1 (j2)); exact rfl; exact rfl; exact rfl; exact rfl; kernel_rfl; (intro hG; (exact cnvX)); exact rfl)
        | ((with_reducible apply Sat.callG1 (j3)); exact rfl; exact rfl; exact rfl; exact rfl; kernel_rfl; (intro hG; (exact cnvX)); exact rfl)
        | ((with_reducible apply Sat.callG1 (j4)); exact rfl; exact rfl; exact rfl; exact rfl; kernel_rfl; (intro hG; (exact cnvX)); exact rfl)
        | ((with_reducible apply Sat.callG1 (j5)); exact rfl; exact rfl; exact rfl; exact rfl; kernel_rfl; (intro hG; (exact cnvX)); exact rfl)
        | ((with_reducible apply Sat.callR (hr0)); exact rfl; exact rfl; exact rfl; kernel_rfl; (exact cnvX); exact rfl) | fail)
      · have hy : y < rs.length := by omega
        have q : roleB ks.length (rs.getD y role0) = false := by
          rw [show (y : Int).toNat = y from rfl] at h
          generalize rs.getD y role0 = z at h ⊢
          unfold roleB
          rcases h with ((((h | h) | h) | h) | h) | h <;> first | (rw [h]; simp; done) | (simp [of_decide_eq_true h]; done)
        (refine Sat.fin (Sat.end1 rfl rfl rfl True.intro (.refl _ purX) (by first | exact .inl rfl | exact .inr rfl) (fun _ h => h)) ?_; (refine congrArg SV.bool ?_; unfold rootQ; rw [decide_eq_false (p := ∀ i, i < rs.length → roleB ks.length (rs.getD i role0) = true) fun e => by rw [e y hy] at q; cases q]; simp))
      · have hy : y < rs.length := by omega
        have q : roleB ks.length (rs.getD y role0) = true := by
          rw [show (y : Int).toNat = y from rfl] at h
          generalize rs.getD y role0 = z at h ⊢
          unfold roleB
          obtain ⟨⟨⟨⟨⟨q1, q2⟩, q3⟩, q4⟩, q5⟩, q6⟩ := h
          have q3' := of_decide_eq_false q3
          rw [q1, q2, q4, q5, q6, decide_eq_false q3']
          rfl
        refine Sat.back (y + 1) [] rfl ?_ ?_ ?_
        · (repeat' (first | exact AllP.nil | with_reducible refine AllP.cons ?_ ?_)) <;> first | exact rfl | exact trivial | exact Int.natCast_add_one _ | (intro _ _; simp [pureL, pureS, pureE]; done) | exact ⟨rfl, rfl, rfl, rfl⟩
        · refine ⟨by omega, fun i hi => ?_⟩
          rcases Nat.lt_succ_iff_lt_or_eq.1 hi with h1 | rfl
          · exact y2 i h1
          · exact q
        · omega
      · (refine Sat.fin (Sat.end1 rfl rfl rfl True.intro (.refl _ purX) (by first | exact .inl rfl | exact .inr rfl) (fun _ h => h)) ?_; (refine congrArg SV.bool ?_; unfold rootQ; rw [e1, e2, decide_eq_true (p := ∀ i, i < rs.length → roleB ks.length (rs.getD i role0) = true) fun i hi => y2 i (by omega)]; rfl))
theorem small_false' (l : List Int) (high : Int) (hh : high ≤ 1000000000) (h : (l.any fun n => !inB n 0 1000000000) = true) : risB l 0 high = false := by
  refine decide_eq_false fun q => ?_
  have : (l.any fun n => !inB n 0 1000000000) = false := (any_false l _ 0).2 fun i hi => by
    have := (q i hi).1
    unfold inB at this ⊢
    rw [Bool.and_eq_true, decide_eq_true_eq, decide_eq_true_eq] at this
    rw [decide_eq_true (by omega), decide_eq_true (by omega)]
    rfl
  rw [this] at h
  cases h
theorem role_eq (n : Nat) (hn : n ≤ 8) (x : RoleL) : roleB n x = (plainB x.name && (!decide (x.keys.length = 0) && (risB x.keys 0 ((n : Int) - 1) && inB x.need 1 x.keys.length))) := by
  have hw : ((!x.keys.any fun n => !inB n 0 1000000000) && withinB x.keys 0 ((n : Int) - 1)) = risB x.keys 0 ((n : Int) - 1) := by
    cases h : (x.keys.any fun n => !inB n 0 1000000000) with
    | true => rw [small_false' _ _ (by omega) h]; rfl
    | false => rw [within_ris _ _ _ (by rw [h]; rfl)]; rfl
  unfold roleB plainB
  rw [← hw, ← odd_eq]
  have e : decide ((x.keys.length : Int) = 0) = decide (x.keys.length = 0) := decide_eq_decide.2 (by omega)
  rw [e]
  cases inB x.name.length 1 20 <;> cases oddR x.name <;> cases decide (x.keys.length = 0) <;> cases (x.keys.any fun n => !inB n 0 1000000000) <;> cases withinB x.keys 0 ((n : Int) - 1) <;> cases inB x.need 1 x.keys.length <;> rfl
theorem keys_eq (ks : List (List UInt8)) : decide (∀ i, i < ks.length → ((ks.take i).any fun y => decide (ks.getD i [] = y)) = false) = decide (∀ i, i < ks.length → ∀ k, k < i → ks.getD k [] ≠ ks.getD i []) := by
  refine decide_eq_decide.2 (forall_congr' fun i => forall_congr' fun hi => ?_)
  rw [any_false _ _ ([] : List UInt8)]
  have hl : (ks.take i).length = i := by simp; omega
  rw [hl]
  refine forall_congr' fun k => forall_congr' fun hk => ?_
  have : (ks.take i).getD k [] = ks.getD k [] := by simp [List.getD_eq_getElem?_getD, List.getElem?_take, hk]
  rw [this, decide_eq_false_iff_not]
  exact ⟨fun h e => h e.symm, fun h e => h e.symm⟩
theorem rootQ_eq (r : RootL) : rootQ r = rootB r := by
  unfold rootQ rootB
  cases h1 : root1 r with
  | false => rfl
  | true =>
    have hk : r.keys.length ≤ 8 := by
      unfold root1 inB at h1; simp at h1; omega
    rw [keys_eq]
    congr 2
    unfold root3 risR
    refine Bool.eq_iff_iff.2 ?_
    rw [Bool.and_eq_true, decide_eq_true_eq, decide_eq_true_eq, decide_eq_true_eq]
    constructor
    · rintro ⟨p, q⟩ i hi
      have := p i hi
      rw [role_eq _ hk] at this
      simp only [Bool.and_eq_true, Bool.not_eq_true', decide_eq_false_iff_not] at this
      exact ⟨this.1, q i hi, this.2.1, this.2.2.1, this.2.2.2⟩
    · intro p
      refine ⟨fun i hi => ?_, fun i hi => (p i hi).2.1⟩
      obtain ⟨p1, p2, p3, p4, p5⟩ := p i hi
      rw [role_eq _ hk, p1, p4, p5]
      simpa using p3
theorem validRoot_spec (r : RootL) : Fun Tryz.prog [] 62 [r.v] (.bool (rootB r)) := by
  have h := rootQ_walk r
  rw [rootQ_eq] at h
  exact h
end Go.Proofs.YtokaegeediokoaaGreatDoor
end
section
namespace Go.Proofs.YtokaegeediokoaaGreatDoor
open Go.RowKit V
theorem bytesC_byte (c : Int) (h : inR .u8 c) : bytesC [UInt8.ofNat c.toNat] = [.int .u8 c] := by
  have h1 : 0 ≤ c ∧ c ≤ 255 := h
  simp only [bytesC, Lib.byteCells, List.map_cons, List.map_nil]
  congr 2
  rw [UInt8.toNat_ofNat_of_lt' (by show c.toNat < 256; omega)]
  omega
theorem buf_byte (c : Int) : BufOk Tryz.prog 5 124 [.int .u8 c] .nili [UInt8.ofNat c.toNat] := by
  intro T B b l w vs hI hB hlim ht
  cases ht with
  | cons _ v _ _ hr hl =>
  cases hl
  cases hr with
  | int _ _ hc =>
  refine (Tryz.Buffer_WriteByte_at T (fun _ => none) B b 0 (bytesC l) c w hI hB (bytesC_one l) (by rw [bytesC_len]; exact hlim)).mono ?_
  rintro e w' ⟨rfl, h1, h2, h3⟩
  exact ⟨⟨_, rfl, fun E T w => .nili⟩, by rw [bytesC_app, bytesC_byte c hc]; exact h1, h2, h3⟩
theorem buf_str (s : List UInt8) : BufOk Tryz.prog 5 127 [.str s] (.tup [.int .i64 (s.length : Int), .nili]) s := by
  intro T B b l w vs hI hB hlim ht
  cases ht with
  | cons _ v _ _ hr hl =>
  cases hl
  cases hr with
  | str _ hs =>
  refine (Tryz.Buffer_WriteString_at T (fun _ => none) B b 0 (bytesC l) ⟨s.toArray⟩ w hI hB (bytesC_one l) (by rw [bytesC_len]; exact hlim)).mono ?_
  rintro e w' ⟨rfl, h1, h2, h3⟩
  refine ⟨⟨_, rfl, fun E T w => .tup _ [_, _] (.cons _ _ _ _ (.int _ _ (inR_i64 (by omega) ?_)) (.cons _ _ _ _ .nili .nil))⟩, by rw [bytesC_app]; exact h1, h2, h3⟩
  unfold okLen at hs
  omega
theorem buf_write (m : List UInt8) (hm : m ≠ []) : BufOk Tryz.prog 5 54 [.ro (.u8 m)] (.tup [.int .i64 (m.length : Int), .nili]) m := by
  intro T B b l w vs hI hB hlim ht
  have hm0 : 0 < m.length := List.length_pos_iff.2 hm
  cases ht with
  | cons _ v _ _ hr hl =>
  cases hl
  cases hr with
  | ro0 _ h => simp only [EV.len] at h; omega
  | ro1 _ _ h => simp only [EV.len] at h; omega
  | ro _ bb o n k c hT hn hc hr he hl ok hb =>
  simp only [EV.len, EV.sz, Nat.mul_one] at he hn hc hr
  have hat : ∀ j v, (bytesC m)[j]? = some v → w.cell? ((⟨bb, o, none⟩ : Addr).add j) = some v := fun j v hv => by
    rcases Nat.lt_or_ge j m.length with hj | hj
    · rw [bytesC_at m j hj] at hv
      cases hv
      have hI := hr j hj
      have hcj := hc j 0
      simp only [EV.items] at hI
      generalize c j = cj at hI hcj
      cases hI with
      | one _ cv _ _ p0 pr pI =>
        cases pr
        rw [Lib.addr_add]
        exact hcj _ hj rfl
    · rw [List.getElem?_eq_none (by rw [bytesC_len]; exact hj)] at hv
      cases hv
  have hne : bb ≠ b := by
    intro hbb
    subst hbb
    obtain ⟨_, v0, lr, h3, _, _⟩ := hI
    have hh := three_whole' h3
    have := hat 0 _ (bytesC_at m 0 hm0)
    rw [Lib.addr_add, Lib.cell_of_heap hh] at this
    match o, this with
    | 0, this =>
      simp at this
      subst this
      rename_i hown hne
      rcases hown.2 with ⟨h, _⟩ | ⟨_, _, _, h, _⟩ <;> cases h
    | 1, this => simp at this
    | 2, this => simp at this
    | o + 3, this => simp at this
  refine (Tryz.Buffer_Write_at T (fun _ => none) B b 0 (bytesC l) (bytesC m) ⟨bb, o, none⟩ n k w hI hB (bytesC_one l) (by rw [bytesC_len]; exact he.symm) hne hat (bytesC_one m) (by rw [bytesC_len, he]; exact hlim)).mono ?_
  rintro e w' ⟨rfl, h1, h2, h3⟩
  subst he
  refine ⟨⟨_, rfl, fun E T w => .tup _ [_, _] (.cons _ _ _ _ (.int _ _ (inR_i64 (by omega) ?_)) (.cons _ _ _ _ .nili .nil))⟩, by rw [bytesC_app]; exact h1, h2, h3⟩
  unfold okLen at ok
  omega
end Go.Proofs.YtokaegeediokoaaGreatDoor
end
section
namespace Go.Proofs.YtokaegeediokoaaGreatDoor
open Go.RowKit V
set_option maxRecDepth 100000
set_option maxHeartbeats 8000000
set_option linter.unusedSimpArgs false
attribute [local irreducible] V.Sat V.DSat
theorem rel_facts (r : Rel) (h : factsL [r.v]) : r.image.length = 32 ∧ r.tree.length = 32 ∧ (∀ i, i < r.gone.length → inR .i64 (r.gone.getD i 0)) ∧ ∀ i, i < r.parts.length → okLen (r.parts.getD i part0).name.length ∧ (r.parts.getD i part0).hash.length = 32 := by
  simp only [factsL, factsS, Rel.v, EV.len, EV.sz, Nat.mul_one] at h
  obtain ⟨⟨-, -, -, -, ⟨h1, -⟩, -, ⟨h2, -⟩, ⟨-, h3⟩, ⟨-, h4⟩, -⟩, -⟩ := h
  refine ⟨h1, h2, h3, fun i hi => ?_⟩
  have h5 := h4 i hi
  simp only [factsL, factsS, EV.len, EV.sz, Nat.mul_one] at h5
  exact ⟨h5.1, h5.2.1.1⟩
theorem bytes_f (r : Rel) (hv : validB r = false) : Fun Tryz.prog [] 22 [r.v] .nils := by
  have h1 := valid_spec r
  rw [hv] at h1
  refine Fun.mkF 7 Tryz.func22 rfl Tryz.ntmps22 rfl rfl fun hf T w0 => ?_
  obtain ⟨v, fl, ex, sz, im, ch, tr, go, pa⟩ := r
  repeat' (first
    | ((with_reducible apply Sat.run (X := X64)); exact rfl; (first | exact True.intro | (exact phi) | skip))
    | ((with_reducible apply Sat.cond_t); exact rfl)
    | ((with_reducible apply Sat.callR (h1)); exact rfl; exact rfl; exact rfl; kernel_rfl; (exact cnvX); exact rfl) | fail)
  (refine Sat.fin (Sat.end1 rfl rfl rfl True.intro (.refl _ purX) (by first | exact .inl rfl | exact .inr rfl) (fun _ h => h)) ?_; rfl)
@[reducible] def nb (n : Int) (k : Nat) : UInt8 := UInt8.ofNat (IntKind.u8.wrap (n / 2 ^ k)).toNat
def num1 (n : Int) : List UInt8 := [nb n 0]
def num2 (n : Int) : List UInt8 := [nb n 8, nb n 0]
def num4 (n : Int) : List UInt8 := [nb n 24, nb n 16, nb n 8, nb n 0]
def partsW (l : List PartL) : List UInt8 := l.flatMap fun p => num1 p.name.length ++ p.name ++ p.hash
def hdr (v fl ex sz : Int) (im : List UInt8) (ch : Int) (tr : List UInt8) (n : Int) : List UInt8 := num1 86 ++ num2 v ++ num2 fl ++ num4 ex ++ num4 sz ++ im ++ num2 ch ++ tr ++ num1 n
def bytesR (r : Rel) : List UInt8 := hdr r.version r.floor r.expiry r.size r.image r.chunks r.tree r.gone.length ++ r.gone.flatMap num2 ++ num1 r.parts.length ++ partsW r.parts
theorem hdr_walk (v fl ex sz : Int) (im : List UInt8) (ch : Int) (tr : List UInt8) (n : Int) : [] ++ [nb 86 (8 * (1 - 1) : Int).toNat] ++ [nb v (8 * (2 - 1) : Int).toNat] ++ [nb v (8 * (2 - 1 - 1) : Int).toNat] ++ [nb fl (8 * (2 - 1) : Int).toNat] ++ [nb fl (8 * (2 - 1 - 1) : Int).toNat]
    ++ [nb ex (8 * (4 - 1) : Int).toNat] ++ [nb ex (8 * (4 - 1 - 1) : Int).toNat] ++ [nb ex (8 * (4 - 1 - 1 - 1) : Int).toNat] ++ [nb ex (8 * (4 - 1 - 1 - 1 - 1) : Int).toNat] ++ [nb sz (8 * (4 - 1) : Int).toNat] ++ [nb sz (8 * (4 - 1 - 1) : Int).toNat] ++ [nb sz (8 * (4 - 1 - 1 - 1) : Int).toNat] ++ [nb sz (8 * (4 - 1 - 1 - 1 - 1) : Int).toNat]
    ++ im ++ [nb ch (8 * (2 - 1) : Int).toNat] ++ [nb ch (8 * (2 - 1 - 1) : Int).toNat] ++ tr ++ [nb n (8 * (1 - 1) : Int).toNat] = hdr v fl ex sz im ch tr n := by
  have e : ∀ a : Int, (8 * (1 - 1) : Int).toNat = 0 ∧ (8 * (2 - 1) : Int).toNat = 8 ∧ (8 * (2 - 1 - 1) : Int).toNat = 0 ∧ (8 * (4 - 1) : Int).toNat = 24 ∧ (8 * (4 - 1 - 1) : Int).toNat = 16 ∧ (8 * (4 - 1 - 1 - 1) : Int).toNat = 8 ∧ (8 * (4 - 1 - 1 - 1 - 1) : Int).toNat = 0 := fun _ => by decide
  obtain ⟨e1, e2, e3, e4, e5, e6, e7⟩ := e 0
  rw [e1, e2, e3, e4, e5, e6, e7]
  simp only [hdr, num1, num2, num4, List.append_assoc, List.nil_append, List.cons_append]
theorem take_flat {α β : Type} (f : α → List β) (l : List α) (d : α) (i : Nat) (h : i < l.length) : (l.take (i + 1)).flatMap f = (l.take i).flatMap f ++ f (l.getD i d) := by
  rw [List.take_add_one, List.flatMap_append]
  simp [List.getD_eq_getElem?_getD, h]
theorem num2_walk (L : List UInt8) (v : Int) : L ++ [nb v (8 * (2 - 1) : Int).toNat] ++ [nb v (8 * (2 - 1 - 1) : Int).toNat] = L ++ num2 v := by
  have e : ∀ a : Int, (8 * (2 - 1) : Int).toNat = 8 ∧ (8 * (2 - 1 - 1) : Int).toNat = 0 := fun _ => by decide
  obtain ⟨e1, e2⟩ := e 0
  rw [e1, e2, List.append_assoc]; rfl
theorem num1_walk (L : List UInt8) (v : Int) : L ++ [nb v (8 * (1 - 1) : Int).toNat] = L ++ num1 v := by
  have e : ∀ a : Int, (8 * (1 - 1) : Int).toNat = 0 := fun _ => by decide
  rw [e 0]; rfl
@[reducible] def killP : List Nat := [3, 21, 24, 25, 26, 27, 28, 29, 30, 31, 32, 33, 34, 35, 36, 37, 38, 39, 40, 41, 42, 43, 44, 45, 46, 47, 48, 49, 50, 51, 52, 53, 54, 55, 56, 57, 58, 59]
theorem name_len {r : Rel} (hv : validB r = true) (i : Nat) (hi : i < r.parts.length) : (r.parts.getD i part0).name.length ≤ 20 := by
  unfold validB at hv
  simp only [Bool.and_eq_true] at hv
  have h4 := hv.2.2.2
  unfold valid4 at h4
  have h5 := (of_decide_eq_true h4 i hi).1
  generalize (r.parts.getD i part0).name = s at h5 ⊢
  unfold nameB inB at h5
  simp at h5
  omega
theorem bytes_t (v fl ex sz : Int) (im : List UInt8) (ch : Int) (tr : List UInt8) (go : List Int) (pa : List PartL) (hv : validB ⟨v, fl, ex, sz, im, ch, tr, go, pa⟩ = true) : Fun Tryz.prog [] 22 [.agg [.int .i64 v, .int .i64 fl, .int .i64 ex, .int .i64 sz, .arr 32 (.u8 im), .int .i64 ch, .arr 32 (.u8 tr), .ro (.ints .i64 go), .ro (partsE pa)]] (.ro (.u8 (bytesR ⟨v, fl, ex, sz, im, ch, tr, go, pa⟩))) := by
  have h1 : Fun Tryz.prog [] 52 [.agg [.int .i64 v, .int .i64 fl, .int .i64 ex, .int .i64 sz, .arr 32 (.u8 im), .int .i64 ch, .arr 32 (.u8 tr), .ro (.ints .i64 go), .ro (partsE pa)]] (.bool (validB ⟨v, fl, ex, sz, im, ch, tr, go, pa⟩)) := valid_spec ⟨v, fl, ex, sz, im, ch, tr, go, pa⟩
  rw [hv] at h1
  refine Fun.mkWF 7 Tryz.func22 rfl Tryz.ntmps22 rfl rfl fun hf T w0 hT => ?_
  obtain ⟨l1, l2, -, l4⟩ := rel_facts ⟨v, fl, ex, sz, im, ch, tr, go, pa⟩ hf
  dsimp only at l1 l2 l4
  have k1 : 32 = im.length := l1.symm
  have k2 : 32 = tr.length := l2.symm
  have him : im ≠ [] := fun h => by rw [h] at k1; cases k1
  have htr : tr ≠ [] := fun h => by rw [h] at k2; cases k2
  clear l1 l2 hf
  have hg : go.length ≤ 16 := by
    unfold validB valid2 at hv; simp at hv; omega
  have hp : pa.length ≤ 8 := by
    unfold validB valid2 at hv; simp at hv; omega
  have hn : ∀ i, i < pa.length → (pa.getD i part0).name.length ≤ 20 := fun i hi => name_len hv i hi
  clear hv
  have b1 := buf_byte
  have b2 := buf_write im him
  have b3 := buf_write tr htr
  clear him htr
  repeat' (first
    | ((with_reducible apply Sat.run (X := X64)); exact rfl; (first | exact True.intro | (exact phi) | skip))
    | ((with_reducible apply Sat.drawn); kernel_rfl)
    | ((with_reducible apply DSat.run (X := X64)); exact rfl; (first | exact True.intro | (exact phi) | skip))
    | ((with_reducible apply DSat.fin); kernel_rfl)
    | ((with_reducible apply Sat.cond_t); exact rfl)
    | ((with_reducible apply Sat.cond_f); exact rfl)
    | ((with_reducible apply Sat.callW (h1)); exact rfl; exact rfl; kernel_rfl; (exact cnvX); exact rfl)
    | ((with_reducible apply Sat.inl 7 kill3 Tryz.func53 Tryz.ntmps53); exact rfl; exact rfl; kernel_rfl; exact rfl; exact rfl; exact rfl; exact rfl; ((repeat' (first | exact AllP.nil | with_reducible refine AllP.cons ?_ ?_)) <;> (first | exact True.intro | exact purX)); intro _ _)
    | ((with_reducible apply Sat.out0 (C := ⟨_, _, _, _, _, _, _, _, _⟩)); exact rfl; (first | exact .inl rfl | exact .inr rfl); exact rfl)
    | (with_reducible apply Sat.unroll 40)
    | (with_reducible apply Sat.again)
    | ((with_reducible apply DSat.buf (b1 _)); exact rfl; kernel_rfl; (exact cnvX); exact rfl; exact rfl; ((repeat' (first | exact AllP.nil | with_reducible refine AllP.cons ?_ ?_)) <;> (first | exact rfl | exact True.intro | omega | (simp only [List.length_append, List.length_cons, List.length_nil]; done) | (simp only [List.length_append, List.length_cons, List.length_nil]; omega) | (simp only [List.length_append, List.length_cons, List.length_nil, *]; omega) | exact purX)); exact rfl; (exact fun _ h => h); (exact fun _ h => Or.inr h))
    | ((with_reducible apply DSat.buf (b2)); exact rfl; kernel_rfl; (exact cnvX); exact rfl; exact rfl; ((repeat' (first | exact AllP.nil | with_reducible refine AllP.cons ?_ ?_)) <;> (first | exact rfl | exact True.intro | omega | (simp only [List.length_append, List.length_cons, List.length_nil]; done) | (simp only [List.length_append, List.length_cons, List.length_nil]; omega) | (simp only [List.length_append, List.length_cons, List.length_nil, *]; omega) | exact purX)); exact rfl; (exact fun _ h => h); (exact fun _ h => Or.inr h))
    | ((with_reducible apply DSat.buf (b3)); exact rfl; kernel_rfl; (exact cnvX); exact rfl; exact rfl; ((repeat' (first | exact AllP.nil | with_reducible refine AllP.cons ?_ ?_)) <;> (first | exact rfl | exact True.intro | omega | (simp only [List.length_append, List.length_cons, List.length_nil]; done) | (simp only [List.length_append, List.length_cons, List.length_nil]; omega) | (simp only [List.length_append, List.length_cons, List.length_nil, *]; omega) | exact purX)); exact rfl; (exact fun _ h => h); (exact fun _ h => Or.inr h)) | fail)
  repeat' (first
    | ((with_reducible apply Sat.run (X := X64)); exact rfl; (first | exact True.intro | (exact phi) | skip))
    | ((with_reducible apply Sat.inl 7 kill3 Tryz.func55 Tryz.ntmps55); exact rfl; exact rfl; kernel_rfl; exact rfl; exact rfl; exact rfl; exact rfl; ((repeat' (first | exact AllP.nil | with_reducible refine AllP.cons ?_ ?_)) <;> (first | exact True.intro | exact purX)); intro _ _)
    | ((with_reducible apply Sat.inl 7 kill3 Tryz.func53 Tryz.ntmps53); exact rfl; exact rfl; kernel_rfl; exact rfl; exact rfl; exact rfl; exact rfl; ((repeat' (first | exact AllP.nil | with_reducible refine AllP.cons ?_ ?_)) <;> (first | exact True.intro | exact purX)); intro _ _) | fail)
  with_reducible apply Sat.unroll 40
  repeat' (first
    | ((with_reducible apply Sat.run (X := X64)); exact rfl; (first | exact True.intro | (exact phi) | skip))
    | ((with_reducible apply Sat.drawn); kernel_rfl)
    | ((with_reducible apply DSat.run (X := X64)); exact rfl; (first | exact True.intro | (exact phi) | skip))
    | ((with_reducible apply DSat.fin); kernel_rfl)
    | ((with_reducible apply Sat.cond_t); exact rfl)
    | ((with_reducible apply Sat.cond_f); exact rfl)
    | ((with_reducible apply Sat.out0 (C := ⟨_, _, _, _, _, _, _, _, _⟩)); exact rfl; (first | exact .inl rfl | exact .inr rfl); exact rfl)
    | (with_reducible apply Sat.again)
    | ((with_reducible apply DSat.buf (b1 _)); exact rfl; kernel_rfl; (exact cnvX); exact rfl; exact rfl; ((repeat' (first | exact AllP.nil | with_reducible refine AllP.cons ?_ ?_)) <;> (first | exact rfl | exact True.intro | omega | (simp only [List.length_append, List.length_cons, List.length_nil]; done) | (simp only [List.length_append, List.length_cons, List.length_nil]; omega) | (simp only [List.length_append, List.length_cons, List.length_nil, *]; omega) | exact purX)); exact rfl; (exact fun _ h => h); (exact fun _ h => Or.inr h)) | fail)
  clear h1 b2 b3
  apply Sat.loop (α := Nat × List UInt8) (fun x => x.1 ≤ go.length ∧ x.2.length ≤ 100 + 2 * x.1 ∧ x.2 = hdr v fl ex sz im ch tr go.length ++ (go.take x.1).flatMap num2) (fun x => go.length - x.1) (0, hdr v fl ex sz im ch tr go.length) (fun x => [(14, .int .i64 (x.1 : Int))]) (fun x => [(1, .cells 120 [.bsl 3 x.2.length, .int .i64 0, .anyi .i8]), (3, .row 5 (.u8 x.2))]) [20] [(3, some 20), (999, none)] 0
  · intro x; exact rfl
  · intro x; exact rfl
  · exact rfl
  · exact rfl
  · (repeat' (first | exact AllP.nil | with_reducible refine AllP.cons ?_ ?_)) <;> first | with_reducible exact rfl | exact congrArg EV.u8 (hdr_walk v fl ex sz im ch tr go.length) | exact congrArg List.length (hdr_walk v fl ex sz im ch tr go.length) | exact rfl | exact trivial | (intro _ _; simp [pureL, pureS, pureE]; done) | exact ⟨rfl, rfl, rfl, rfl⟩
  · refine ⟨Nat.zero_le _, ?_, by simp⟩
    simp [hdr, num1, num2, num4]; omega
  · rintro ⟨x, L⟩ ⟨x1, x2, x3⟩
    dsimp only at x1 x2 x3 ⊢
    repeat' (first
      | ((with_reducible apply Sat.run (X := X64)); exact rfl; (first | exact True.intro | (exact phi) | skip))
      | ((with_reducible apply Sat.drawn); kernel_rfl)
      | ((with_reducible apply DSat.run (X := X64)); exact rfl; (first | exact True.intro | (exact phi) | skip))
      | ((with_reducible apply DSat.fin); kernel_rfl)
      | ((with_reducible apply Sat.cond_t); exact rfl)
      | ((with_reducible apply Sat.cond_f); exact rfl)
      | ((with_reducible apply Sat.cond_p); exact rfl; all_goals intro h)
      | ((with_reducible apply Sat.inl 7 kill3 Tryz.func56 Tryz.ntmps56); exact rfl; exact rfl; kernel_rfl; exact rfl; exact rfl; exact rfl; exact rfl; ((repeat' (first | exact AllP.nil | with_reducible refine AllP.cons ?_ ?_)) <;> (first | exact True.intro | exact purX)); intro _ _)
      | ((with_reducible apply Sat.inl 7 kill3 Tryz.func53 Tryz.ntmps53); exact rfl; exact rfl; kernel_rfl; exact rfl; exact rfl; exact rfl; exact rfl; ((repeat' (first | exact AllP.nil | with_reducible refine AllP.cons ?_ ?_)) <;> (first | exact True.intro | exact purX)); intro _ _)
      | ((with_reducible apply Sat.out0 (C := ⟨_, _, _, _, _, _, _, _, _⟩)); exact rfl; (first | exact .inl rfl | exact .inr rfl); exact rfl)
      | (with_reducible apply Sat.unroll 40)
      | (with_reducible apply Sat.again)
      | ((with_reducible apply DSat.buf (b1 _)); exact rfl; kernel_rfl; (exact cnvX); exact rfl; exact rfl; ((repeat' (first | exact AllP.nil | with_reducible refine AllP.cons ?_ ?_)) <;> (first | exact rfl | exact True.intro | omega | (simp only [List.length_append, List.length_cons, List.length_nil]; done) | (simp only [List.length_append, List.length_cons, List.length_nil]; omega) | (simp only [List.length_append, List.length_cons, List.length_nil, *]; omega) | exact purX)); exact rfl; (exact fun _ h => h); (exact fun _ h => Or.inr h)) | fail)
    · refine Sat.back (x + 1, L ++ num2 (go.getD x 0)) [(3, some 22), (999, none)] rfl ?_ ?_ ?_
      · (repeat' (first | exact AllP.nil | with_reducible refine AllP.cons ?_ ?_)) <;> first | with_reducible exact rfl | exact congrArg EV.u8 (num2_walk L _) | exact congrArg List.length (num2_walk L _) | exact Int.natCast_add_one _ | exact rfl | exact trivial | (intro _ _; simp [pureL, pureS, pureE]; done) | exact ⟨rfl, rfl, rfl, rfl⟩
      · have hx : x < go.length := by simp only [EV.len] at h; omega
        exact ⟨hx, by simp [num2]; omega, by rw [x3, take_flat num2 go 0 x hx, List.append_assoc]⟩
      · simp only [EV.len] at h; dsimp only; omega
    have hx : x = go.length := by simp only [EV.len] at h; omega
    subst hx
    rw [List.take_length] at x3
    clear h
    repeat' (first
      | fail | fail)
    repeat' (first
      | ((with_reducible apply Sat.run (X := X64)); exact rfl; (first | exact True.intro | (exact phi) | skip))
      | ((with_reducible apply Sat.inl 7 kill3 Tryz.func57 Tryz.ntmps57); exact rfl; exact rfl; kernel_rfl; exact rfl; exact rfl; exact rfl; exact rfl; ((repeat' (first | exact AllP.nil | with_reducible refine AllP.cons ?_ ?_)) <;> (first | exact True.intro | exact purX)); intro _ _)
      | ((with_reducible apply Sat.inl 7 kill3 Tryz.func53 Tryz.ntmps53); exact rfl; exact rfl; kernel_rfl; exact rfl; exact rfl; exact rfl; exact rfl; ((repeat' (first | exact AllP.nil | with_reducible refine AllP.cons ?_ ?_)) <;> (first | exact True.intro | exact purX)); intro _ _) | fail)
    with_reducible apply Sat.unroll 40
    repeat' (first
      | ((with_reducible apply Sat.run (X := X64)); exact rfl; (first | exact True.intro | (exact phi) | skip))
      | ((with_reducible apply Sat.drawn); kernel_rfl)
      | ((with_reducible apply DSat.run (X := X64)); exact rfl; (first | exact True.intro | (exact phi) | skip))
      | ((with_reducible apply DSat.fin); kernel_rfl)
      | ((with_reducible apply Sat.cond_t); exact rfl)
      | ((with_reducible apply Sat.cond_f); exact rfl)
      | ((with_reducible apply Sat.out0 (C := ⟨_, _, _, _, _, _, _, _, _⟩)); exact rfl; (first | exact .inl rfl | exact .inr rfl); exact rfl)
      | (with_reducible apply Sat.again)
      | ((with_reducible apply DSat.buf (b1 _)); exact rfl; kernel_rfl; (exact cnvX); exact rfl; exact rfl; ((repeat' (first | exact AllP.nil | with_reducible refine AllP.cons ?_ ?_)) <;> (first | exact rfl | exact True.intro | omega | (simp only [List.length_append, List.length_cons, List.length_nil]; done) | (simp only [List.length_append, List.length_cons, List.length_nil]; omega) | (simp only [List.length_append, List.length_cons, List.length_nil, *]; omega) | exact purX)); exact rfl; (exact fun _ h => h); (exact fun _ h => Or.inr h)) | fail)
    apply Sat.loop (α := Nat × List UInt8) (fun x => x.1 ≤ pa.length ∧ x.2.length ≤ 200 + 100 * x.1 ∧ x.2 = L ++ num1 pa.length ++ partsW (pa.take x.1)) (fun x => pa.length - x.1) (0, L ++ num1 pa.length) (fun x => [(14, .int .i64 (x.1 : Int))]) (fun x => [(1, .cells 120 [.bsl 3 x.2.length, .int .i64 0, .anyi .i8]), (3, .row 5 (.u8 x.2))]) [21] [(3, some 21), (999, none)] 0
    · intro x; exact rfl
    · intro x; exact rfl
    · exact rfl
    · exact rfl
    · (repeat' (first | exact AllP.nil | with_reducible refine AllP.cons ?_ ?_)) <;> first | with_reducible exact rfl | exact congrArg EV.u8 (num1_walk L pa.length) | exact congrArg List.length (num1_walk L pa.length) | exact rfl | exact trivial | (intro _ _; simp [pureL, pureS, pureE]; done) | exact ⟨rfl, rfl, rfl, rfl⟩
    · refine ⟨Nat.zero_le _, ?_, by simp [partsW]⟩
      simp [num1]; omega
    · rintro ⟨y, K⟩ ⟨y1, y2, y3⟩
      dsimp only at y1 y2 y3 ⊢
      by_cases hy : y < pa.length
      · have h5 := l4 y hy
        have k5 : 32 = (pa.getD (y : Int).toNat part0).hash.length := h5.2.symm
        have hh : (pa.getD (y : Int).toNat part0).hash ≠ [] := fun h => by rw [h] at k5; cases k5
        have h6 : (pa.getD (y : Int).toNat part0).name.length ≤ 20 := hn y hy
        have b4 := buf_str (pa.getD (y : Int).toNat part0).name
        have b5 := buf_write _ hh
        clear hh h5
        repeat' (first
          | ((with_reducible apply Sat.run (X := X64)); exact rfl; (first | exact True.intro | (exact phi) | skip))
          | ((with_reducible apply Sat.drawn); kernel_rfl)
          | ((with_reducible apply DSat.run (X := X64)); exact rfl; (first | exact True.intro | (exact phi) | skip))
          | ((with_reducible apply DSat.fin); kernel_rfl)
          | ((with_reducible apply Sat.cond_t); exact rfl)
          | ((with_reducible apply Sat.cond_f); exact rfl)
          | ((with_reducible apply Sat.cond_pt); exact rfl; (try dsimp only [V.EV.sub, V.EV.len]); first | assumption | omega)
          | ((with_reducible apply Sat.inl 7 kill3 Tryz.func58 Tryz.ntmps58); exact rfl; exact rfl; kernel_rfl; exact rfl; exact rfl; exact rfl; exact rfl; ((repeat' (first | exact AllP.nil | with_reducible refine AllP.cons ?_ ?_)) <;> (first | exact True.intro | exact purX)); intro _ _)
          | ((with_reducible apply Sat.inl 7 killP Tryz.func59 Tryz.ntmps59); exact rfl; exact rfl; kernel_rfl; exact rfl; exact rfl; exact rfl; exact rfl; ((repeat' (first | exact AllP.nil | with_reducible refine AllP.cons ?_ ?_)) <;> (first | exact True.intro | exact purX)); intro _ _)
          | ((with_reducible apply Sat.inl 7 killP Tryz.func53 Tryz.ntmps53); exact rfl; exact rfl; kernel_rfl; exact rfl; exact rfl; exact rfl; exact rfl; ((repeat' (first | exact AllP.nil | with_reducible refine AllP.cons ?_ ?_)) <;> (first | exact True.intro | exact purX)); intro _ _)
          | ((with_reducible apply Sat.out0 (C := ⟨_, _, _, _, _, _, _, _, _⟩)); exact rfl; (first | exact .inl rfl | exact .inr rfl); exact rfl)
          | (with_reducible apply Sat.unroll 40)
          | (with_reducible apply Sat.again)
          | ((with_reducible apply DSat.buf (b1 _)); exact rfl; kernel_rfl; (exact cnvX); exact rfl; exact rfl; ((repeat' (first | exact AllP.nil | with_reducible refine AllP.cons ?_ ?_)) <;> (first | exact rfl | exact True.intro | omega | (simp only [List.length_append, List.length_cons, List.length_nil]; done) | (simp only [List.length_append, List.length_cons, List.length_nil]; omega) | (simp only [List.length_append, List.length_cons, List.length_nil, *]; omega) | exact purX)); exact rfl; (exact fun _ h => h); (exact fun _ h => Or.inr h))
          | ((with_reducible apply Sat.buf (b4)); exact rfl; kernel_rfl; (exact cnvX); exact rfl; ((repeat' (first | exact AllP.nil | with_reducible refine AllP.cons ?_ ?_)) <;> (first | exact rfl | exact True.intro | omega | (simp only [List.length_append, List.length_cons, List.length_nil]; done) | (simp only [List.length_append, List.length_cons, List.length_nil]; omega) | (simp only [List.length_append, List.length_cons, List.length_nil, *]; omega) | exact purX)); exact rfl; (exact fun _ h => h); (exact fun _ h => Or.inr h))
          | ((with_reducible apply DSat.buf (b5)); exact rfl; kernel_rfl; (exact cnvX); exact rfl; exact rfl; ((repeat' (first | exact AllP.nil | with_reducible refine AllP.cons ?_ ?_)) <;> (first | exact rfl | exact True.intro | omega | (simp only [List.length_append, List.length_cons, List.length_nil]; done) | (simp only [List.length_append, List.length_cons, List.length_nil]; omega) | (simp only [List.length_append, List.length_cons, List.length_nil, *]; omega) | exact purX)); exact rfl; (exact fun _ h => h); (exact fun _ h => Or.inr h)) | fail)
        refine Sat.back (y + 1, K ++ num1 (pa.getD (y : Int).toNat part0).name.length ++ (pa.getD (y : Int).toNat part0).name ++ (pa.getD (y : Int).toNat part0).hash) [(3, some 26), (999, none)] rfl ?_ ?_ ?_
        · (repeat' (first | exact AllP.nil | with_reducible refine AllP.cons ?_ ?_)) <;> first | with_reducible exact rfl | exact congrArg (fun x => EV.u8 (x ++ (pa.getD (y : Int).toNat part0).name ++ (pa.getD (y : Int).toNat part0).hash)) (num1_walk K _) | exact congrArg (fun x => (x ++ (pa.getD (y : Int).toNat part0).name ++ (pa.getD (y : Int).toNat part0).hash).length) (num1_walk K _) | exact Int.natCast_add_one _ | exact rfl | exact trivial | (intro _ _; simp [pureL, pureS, pureE]; done) | exact ⟨rfl, rfl, rfl, rfl⟩
        · refine ⟨hy, ?_, ?_⟩
          · simp only [List.length_append, num1, List.length_cons, List.length_nil]
            omega
          · dsimp only
            rw [y3]
            unfold partsW
            rw [take_flat _ pa part0 y hy]
            simp only [List.append_assoc, Int.toNat_natCast]
        · dsimp only; omega
      · have hx : y = pa.length := by omega
        subst hx
        repeat' (first
          | ((with_reducible apply Sat.run (X := X64)); exact rfl; (first | exact True.intro | (exact phi) | skip))
          | ((with_reducible apply Sat.drawn); kernel_rfl)
          | ((with_reducible apply DSat.run (X := X64)); exact rfl; (first | exact True.intro | (exact phi) | skip))
          | ((with_reducible apply DSat.fin); kernel_rfl)
          | ((with_reducible apply Sat.cond_pf); exact rfl; (try dsimp only [V.EV.sub, V.EV.len]); first | assumption | omega)
          | ((with_reducible apply Sat.inl 7 kill3 Tryz.func60 Tryz.ntmps60); exact rfl; exact rfl; kernel_rfl; exact rfl; exact rfl; exact rfl; exact rfl; ((repeat' (first | exact AllP.nil | with_reducible refine AllP.cons ?_ ?_)) <;> (first | exact True.intro | exact purX)); intro _ _)
          | ((with_reducible apply Sat.out1 (C := ⟨_, _, _, _, _, _, _, _, _⟩)); exact rfl; (first | exact .inl rfl | exact .inr rfl); exact rfl; (exact phi); exact rfl)
          | ((with_reducible apply Sat.out0 (C := ⟨_, _, _, _, _, _, _, _, _⟩)); exact rfl; (first | exact .inl rfl | exact .inr rfl); exact rfl) | fail)
        refine Sat.narrow hT (fun _ h => h) ?_
        refine Sat.fin (Sat.end1 rfl rfl rfl True.intro (.all _ _ _ _ _ rfl rfl (by simp [EV.len]) trivial) (by first | exact .inl rfl | exact .inr rfl) (fun _ h => h)) ?_
        rw [List.take_length] at y3
        refine congrArg (fun x => SV.ro (EV.u8 x)) ?_
        rw [y3, x3]
        simp only [bytesR, List.append_assoc]
theorem bytes_spec (r : Rel) (hv : validB r = true) : Fun Tryz.prog [] 22 [r.v] (.ro (.u8 (bytesR r))) := by
  obtain ⟨v, fl, ex, sz, im, ch, tr, go, pa⟩ := r
  exact bytes_t v fl ex sz im ch tr go pa hv
end Go.Proofs.YtokaegeediokoaaGreatDoor
end
section
namespace Go.Proofs.YtokaegeediokoaaGreatDoor
open Go.RowKit V
set_option maxRecDepth 100000
set_option maxHeartbeats 8000000
set_option linter.unusedSimpArgs false
attribute [local irreducible] V.Sat V.DSat
@[simp] theorem num1_len (n : Int) : (num1 n).length = 1 := rfl
@[simp] theorem num2_len (n : Int) : (num2 n).length = 2 := rfl
@[simp] theorem num4_len (n : Int) : (num4 n).length = 4 := rfl
theorem nb_zero (n : Int) : nb n 0 = UInt8.ofNat (IntKind.u8.wrap n).toNat := by simp [nb]
theorem num2_ref (n : Int) : Fun Tryz.prog [] 41 [.int .i64 n, .int .i64 2] (.ro (.u8 (num2 n))) := by
  refine Fun.mk 6 Tryz.func41 rfl Tryz.ntmps41 rfl rfl fun T w0 => ?_
  repeat' (first
    | ((with_reducible apply Sat.run (X := X64)); exact rfl; (first | exact True.intro | (exact phi) | skip))
    | ((with_reducible apply Sat.cond_t); exact rfl)
    | ((with_reducible apply Sat.cond_f); exact rfl)
    | (with_reducible apply Sat.unroll 40)
    | (with_reducible apply Sat.again) | fail)
  refine Sat.fin (Sat.end1 rfl rfl rfl True.intro (.all _ _ _ _ _ rfl rfl (by simp [EV.len, EV.sub]; try omega) trivial) (by first | exact .inl rfl | exact .inr rfl) (fun _ h => h)) ?_
  exact congrArg (fun x => SV.ro (EV.u8 x)) (num2_walk [] n).symm
theorem num4_ref (n : Int) : Fun Tryz.prog [] 41 [.int .i64 n, .int .i64 4] (.ro (.u8 (num4 n))) := by
  refine Fun.mk 6 Tryz.func41 rfl Tryz.ntmps41 rfl rfl fun T w0 => ?_
  repeat' (first
    | ((with_reducible apply Sat.run (X := X64)); exact rfl; (first | exact True.intro | (exact phi) | skip))
    | ((with_reducible apply Sat.cond_t); exact rfl)
    | ((with_reducible apply Sat.cond_f); exact rfl)
    | (with_reducible apply Sat.unroll 40)
    | (with_reducible apply Sat.again) | fail)
  refine Sat.fin (Sat.end1 rfl rfl rfl True.intro (.all _ _ _ _ _ rfl rfl (by simp [EV.len, EV.sub]; try omega) trivial) (by first | exact .inl rfl | exact .inr rfl) (fun _ h => h)) ?_
  refine congrArg (fun x => SV.ro (EV.u8 x)) ?_
  rfl
theorem text_ref (s : List UInt8) (h : s.length ≤ 20) : Fun Tryz.prog [] 42 [.str s] (.ro (.u8 (num1 s.length ++ s))) := by
  refine Fun.mk 6 Tryz.func42 rfl Tryz.ntmps42 rfl rfl fun T w0 => ?_
  repeat' (first
    | ((with_reducible apply Sat.run (X := X64)); exact rfl; (first | exact True.intro | (exact phi) | skip)) | fail)
  refine Sat.fin (Sat.end1 rfl rfl rfl True.intro (.all _ _ _ _ _ rfl rfl (by simp [EV.len, EV.sub]; try omega) trivial) (by first | exact .inl rfl | exact .inr rfl) (fun _ h => h)) ?_
  refine congrArg (fun x => SV.ro (EV.u8 x)) ?_
  rw [num1, nb_zero]
theorem bytesR_t (v fl ex sz : Int) (im : List UInt8) (ch : Int) (tr : List UInt8) (go : List Int) (pa : List PartL) (hv : validB ⟨v, fl, ex, sz, im, ch, tr, go, pa⟩ = true) : Fun Tryz.prog [] 13 [.agg [.int .i64 v, .int .i64 fl, .int .i64 ex, .int .i64 sz, .arr 32 (.u8 im), .int .i64 ch, .arr 32 (.u8 tr), .ro (.ints .i64 go), .ro (partsE pa)]] (.ro (.u8 (bytesR ⟨v, fl, ex, sz, im, ch, tr, go, pa⟩))) := by
  have h1 : Fun Tryz.prog [] 40 [.agg [.int .i64 v, .int .i64 fl, .int .i64 ex, .int .i64 sz, .arr 32 (.u8 im), .int .i64 ch, .arr 32 (.u8 tr), .ro (.ints .i64 go), .ro (partsE pa)]] (.bool (validB ⟨v, fl, ex, sz, im, ch, tr, go, pa⟩)) := valid_ref ⟨v, fl, ex, sz, im, ch, tr, go, pa⟩
  rw [hv] at h1
  refine Fun.mkF 7 Tryz.func13 rfl Tryz.ntmps13 rfl rfl fun hf T w0 => ?_
  obtain ⟨l1, l2, -, l4⟩ := rel_facts ⟨v, fl, ex, sz, im, ch, tr, go, pa⟩ hf
  dsimp only at l1 l2 l4
  have k1 : 32 = im.length := l1.symm
  have k2 : 32 = tr.length := l2.symm
  clear l1 l2 hf
  have hg : go.length ≤ 16 := by
    unfold validB valid2 at hv; simp at hv; omega
  have hp : pa.length ≤ 8 := by
    unfold validB valid2 at hv; simp at hv; omega
  have hn : ∀ i, i < pa.length → (pa.getD i part0).name.length ≤ 20 := fun i hi => name_len hv i hi
  clear hv
  have n1 := num2_ref v
  have n2 := num2_ref fl
  have n3 := num4_ref ex
  have n4 := num4_ref sz
  have n5 := num2_ref ch
  have w1 := num2_len v
  have w2 := num2_len fl
  have w3 := num4_len ex
  have w4 := num4_len sz
  have w5 := num2_len ch
  generalize e1 : num2 v = A1 at n1 w1
  generalize e2 : num2 fl = A2 at n2 w2
  generalize e3 : num4 ex = A3 at n3 w3
  generalize e4 : num4 sz = A4 at n4 w4
  generalize e5 : num2 ch = A5 at n5 w5
  have e0 : [UInt8.ofNat (Int.toNat 86)] ++ A1 ++ A2 ++ A3 ++ A4 ++ im ++ A5 ++ tr ++ [UInt8.ofNat (IntKind.u8.wrap (go.length : Int)).toNat] = hdr v fl ex sz im ch tr go.length := by
    rw [← e1, ← e2, ← e3, ← e4, ← e5]
    unfold hdr
    rw [num1, num1, nb_zero, nb_zero]
    rfl
  have e0' : [UInt8.ofNat (Int.toNat 86)] ++ A1 ++ A2 ++ A3 ++ A4 ++ List.take (32 - 0) (List.drop 0 im) ++ A5 ++ List.take (32 - 0) (List.drop 0 tr) ++ List.take 1 (List.drop 0 [UInt8.ofNat (IntKind.u8.wrap (go.length : Int)).toNat]) = hdr v fl ex sz im ch tr go.length := by
    rw [← e0, List.drop_zero, List.drop_zero, List.take_of_length_le (l := im) (by omega), List.take_of_length_le (l := tr) (by omega)]
    rfl
  clear e1 e2 e3 e4 e5
  repeat' (first
    | ((with_reducible apply Sat.run (X := X64)); exact rfl; (first | exact True.intro | (exact phi) | skip))
    | ((with_reducible apply Sat.cond_f); exact rfl)
    | ((with_reducible apply Sat.callR (h1)); exact rfl; exact rfl; exact rfl; kernel_rfl; (exact cnvX); exact rfl)
    | ((with_reducible apply Sat.call (n1)); exact rfl; exact rfl; kernel_rfl; (exact cnvX); exact rfl)
    | ((with_reducible apply Sat.call (n2)); exact rfl; exact rfl; kernel_rfl; (exact cnvX); exact rfl)
    | ((with_reducible apply Sat.call (n3)); exact rfl; exact rfl; kernel_rfl; (exact cnvX); exact rfl)
    | ((with_reducible apply Sat.call (n4)); exact rfl; exact rfl; kernel_rfl; (exact cnvX); exact rfl)
    | ((with_reducible apply Sat.call (n5)); exact rfl; exact rfl; kernel_rfl; (exact cnvX); exact rfl) | fail)
  clear h1 n1 n2 n3 n4 n5
  have hLe : (hdr v fl ex sz im ch tr go.length).length = 80 := by
    rw [← e0]
    simp only [List.length_append, List.length_cons, List.length_nil]
    omega
  with_reducible apply Sat.drop
  · exact rfl
  · (repeat' (first | exact AllP.nil | with_reducible refine AllP.cons ?_ ?_)) <;> (intro _ _; simp [pureL, pureS, pureE]; done)
  refine Sat.kill [48, 49] rfl ?_
  apply Sat.loop (α := Nat × List UInt8) (fun x => x.1 ≤ go.length ∧ x.2.length ≤ 100 + 2 * x.1 ∧ x.2 = hdr v fl ex sz im ch tr go.length ++ (go.take x.1).flatMap num2) (fun x => go.length - x.1) (0, hdr v fl ex sz im ch tr go.length) (fun x => [(4, .int .i64 (x.1 : Int)), (3, .row 1 0 1 0 x.2.length)]) (fun x => [(1, .row 5 (.u8 x.2))]) [9, 10] [(1, some 10)] 0
  · intro x; exact rfl
  · intro x; exact rfl
  · exact rfl
  · exact rfl
  · (repeat' (first | exact AllP.nil | with_reducible refine AllP.cons ?_ ?_)) <;> first | with_reducible exact rfl | exact congrArg EV.u8 e0' | with_reducible exact ⟨rfl, rfl, rfl, rfl⟩ | (refine ⟨rfl, rfl, rfl, ?_⟩; show _ = (hdr v fl ex sz im ch tr go.length).length; rw [hLe]; simp only [EV.len, EV.sub, List.length_take, List.length_drop, List.length_cons, List.length_nil, Option.getD_none]; omega) | exact rfl | exact trivial | (intro _ _; simp [pureL, pureS, pureE]; done) | exact ⟨rfl, rfl, rfl, rfl⟩
  · exact ⟨Nat.zero_le _, by dsimp only; omega, by simp⟩
  · rintro ⟨x, L⟩ ⟨x1, x2, x3⟩
    dsimp only at x1 x2 x3 ⊢
    have n1 := num2_ref (go.getD (x : Int).toNat 0)
    have w1 := num2_len (go.getD (x : Int).toNat 0)
    generalize e1 : num2 (go.getD (x : Int).toNat 0) = A1 at n1 w1
    repeat' (first
      | ((with_reducible apply Sat.run (X := X64)); exact rfl; (first | exact True.intro | (exact phi) | skip))
      | ((with_reducible apply Sat.cond_p); exact rfl; all_goals intro h)
      | ((with_reducible apply Sat.call (n1)); exact rfl; exact rfl; kernel_rfl; (exact cnvX); exact rfl) | fail)
    · have hx : x < go.length := by simp only [EV.len] at h; omega
      refine Sat.back (x + 1, L ++ A1) [(1, some 11)] rfl ?_ ?_ ?_
      · (repeat' (first | exact AllP.nil | with_reducible refine AllP.cons ?_ ?_)) <;> first | with_reducible exact rfl | exact Int.natCast_add_one _ | exact rfl | exact trivial | (intro _ _; simp [pureL, pureS, pureE]; done) | exact ⟨rfl, rfl, rfl, rfl⟩ | exact ⟨rfl, rfl, rfl, by simp [EV.len]⟩
      · refine ⟨hx, by simp only [List.length_append]; omega, ?_⟩
        dsimp only
        rw [x3, take_flat num2 go 0 x hx, List.append_assoc, ← e1]
        rfl
      · dsimp only; omega
    · have hx : x = go.length := by simp only [EV.len] at h; omega
      subst hx
      rw [List.take_length] at x3
      clear h n1 w1
      repeat' (first
        | fail | fail)
      have hL2 : L.length ≤ 200 := by omega
      have e3 : L ++ List.take 1 (List.drop 0 [UInt8.ofNat (IntKind.u8.wrap (pa.length : Int)).toNat]) = L ++ num1 pa.length := by rw [num1, nb_zero]; rfl
      with_reducible apply Sat.drop
      · exact rfl
      · (repeat' (first | exact AllP.nil | with_reducible refine AllP.cons ?_ ?_)) <;> (intro _ _; simp [pureL, pureS, pureE]; done)
      refine Sat.kill [70, 71] rfl ?_
      apply Sat.loop (α := Nat × List UInt8) (fun x => x.1 ≤ pa.length ∧ x.2.length ≤ 300 + 100 * x.1 ∧ x.2 = L ++ num1 pa.length ++ partsW (pa.take x.1)) (fun x => pa.length - x.1) (0, L ++ num1 pa.length) (fun x => [(5, .int .i64 (x.1 : Int)), (3, .row 1 0 1 0 x.2.length)]) (fun x => [(1, .row 5 (.u8 x.2))]) [11, 12] [(1, some 12)] 0
      · intro x; exact rfl
      · intro x; exact rfl
      · exact rfl
      · exact rfl
      · (repeat' (first | exact AllP.nil | with_reducible refine AllP.cons ?_ ?_)) <;> first | with_reducible exact rfl | exact congrArg EV.u8 e3 | with_reducible exact ⟨rfl, rfl, rfl, rfl⟩ | (refine ⟨rfl, rfl, rfl, ?_⟩; show _ = (L ++ num1 pa.length).length; simp only [EV.len, EV.sub, num1_len, List.length_append, List.length_take, List.length_drop, List.length_cons, List.length_nil]; omega) | exact rfl | exact trivial | (intro _ _; simp [pureL, pureS, pureE]; done) | exact ⟨rfl, rfl, rfl, rfl⟩
      · exact ⟨Nat.zero_le _, by simp [num1]; omega, by simp [partsW]⟩
      · rintro ⟨y, K⟩ ⟨y1, y2, y3⟩
        dsimp only at y1 y2 y3 ⊢
        by_cases hy : y < pa.length
        · have h5 := l4 y hy
          have h6 : (pa.getD (y : Int).toNat part0).name.length ≤ 20 := hn y hy
          have k5 : 32 = (pa.getD (y : Int).toNat part0).hash.length := h5.2.symm
          have n1 := text_ref (pa.getD (y : Int).toNat part0).name h6
          have w1 : (num1 (pa.getD (y : Int).toNat part0).name.length ++ (pa.getD (y : Int).toNat part0).name).length ≤ 21 := by simp only [List.length_append, num1_len]; omega
          have e6 : partsW (pa.take (y + 1)) = partsW (pa.take y) ++ ((num1 (pa.getD (y : Int).toNat part0).name.length ++ (pa.getD (y : Int).toNat part0).name) ++ (pa.getD (y : Int).toNat part0).hash) := by
            unfold partsW
            rw [take_flat _ pa part0 y hy]
            rfl
          generalize num1 (pa.getD (y : Int).toNat part0).name.length ++ (pa.getD (y : Int).toNat part0).name = A1 at n1 w1 e6
          clear h5 h6
          repeat' (first
            | ((with_reducible apply Sat.run (X := X64)); exact rfl; (first | exact True.intro | (exact phi) | skip))
            | ((with_reducible apply Sat.cond_pt); exact rfl; (try dsimp only [V.EV.sub, V.EV.len]); first | assumption | omega)
            | ((with_reducible apply Sat.call (n1)); exact rfl; exact rfl; kernel_rfl; (exact cnvX); exact rfl) | fail)
          have e7 : K ++ A1 ++ List.take (32 - 0) (List.drop 0 (pa.getD (y : Int).toNat part0).hash) = K ++ (A1 ++ (pa.getD (y : Int).toNat part0).hash) := by
            rw [List.drop_zero, List.take_of_length_le (by omega), List.append_assoc]
          refine Sat.back (y + 1, K ++ (A1 ++ (pa.getD (y : Int).toNat part0).hash)) [(1, some 14)] rfl ?_ ?_ ?_
          · (repeat' (first | exact AllP.nil | with_reducible refine AllP.cons ?_ ?_)) <;> first | with_reducible exact rfl | exact congrArg EV.u8 e7 | exact Int.natCast_add_one _ | (refine ⟨rfl, rfl, rfl, ?_⟩; show _ = (K ++ (A1 ++ (pa.getD (y : Int).toNat part0).hash)).length; rw [← e7]; simp only [EV.len, EV.sub, List.length_append, Option.getD_none]; done) | exact rfl | exact trivial | (intro _ _; simp [pureL, pureS, pureE]; done) | exact ⟨rfl, rfl, rfl, rfl⟩
          · refine ⟨hy, by simp only [List.length_append]; omega, ?_⟩
            dsimp only
            rw [y3, e6, List.append_assoc]
          · dsimp only; omega
        · have hx : y = pa.length := by omega
          subst hx
          rw [List.take_length] at y3
          repeat' (first
            | ((with_reducible apply Sat.run (X := X64)); exact rfl; (first | exact True.intro | (exact phi) | skip))
            | ((with_reducible apply Sat.cond_pf); exact rfl; (try dsimp only [V.EV.sub, V.EV.len]); first | assumption | omega) | fail)
          refine Sat.fin (Sat.end1 rfl rfl rfl True.intro (.all _ _ _ _ _ rfl rfl (by simp [EV.len, EV.sub]; try omega) trivial) (by first | exact .inl rfl | exact .inr rfl) (fun _ h => h)) ?_
          refine congrArg (fun x => SV.ro (EV.u8 x)) ?_
          rw [y3, x3]
          simp only [bytesR, List.append_assoc]
theorem bytesR_spec (r : Rel) (hv : validB r = true) : Fun Tryz.prog [] 13 [r.v] (.ro (.u8 (bytesR r))) := by
  obtain ⟨v, fl, ex, sz, im, ch, tr, go, pa⟩ := r
  exact bytesR_t v fl ex sz im ch tr go pa hv
end Go.Proofs.YtokaegeediokoaaGreatDoor
end
section
namespace Go.Proofs.YtokaegeediokoaaGreatDoor
open Go.RowKit V
set_option maxRecDepth 100000
set_option maxHeartbeats 8000000
set_option linter.unusedSimpArgs false
attribute [local irreducible] V.Sat V.DSat
theorem ris_len (l : List Int) (high : Int) (h : risB l 0 high = true) : l.length = 0 ∨ (l.length : Int) ≤ high + 1 := by
  have h1 := of_decide_eq_true h
  have key : ∀ i, i < l.length → (i : Int) ≤ l.getD i 0 := by
    intro i
    induction i with
    | zero => intro hi; have := (h1 0 hi).1; unfold inB at this; simp only [Bool.and_eq_true, decide_eq_true_eq] at this; omega
    | succ i ih =>
      intro hi
      have h2 := ih (by omega)
      have h3 := (h1 (i + 1) hi).2 (by omega)
      simp only [Nat.add_sub_cancel] at h3
      omega
  rcases Nat.eq_zero_or_pos l.length with h0 | h0
  · exact .inl h0
  · right
    have h2 := key (l.length - 1) (by omega)
    have h3 := (h1 (l.length - 1) (by omega)).1
    unfold inB at h3
    simp only [Bool.and_eq_true, decide_eq_true_eq] at h3
    omega
def roleW (x : RoleL) : List UInt8 := num1 x.name.length ++ x.name ++ num1 x.keys.length ++ x.keys.flatMap num1 ++ num1 x.need
def hdrR (g ex : Int) (n : Int) : List UInt8 := num1 82 ++ num4 g ++ num4 ex ++ num1 n
def bytesQ (r : RootL) : List UInt8 := hdrR r.gen r.expiry r.keys.length ++ r.keys.flatten ++ num1 r.roles.length ++ r.roles.flatMap roleW
structure RootFacts (ks : List (List UInt8)) (rs : List RoleL) : Prop where
  keys : ks.length ≤ 8
  roles : rs.length ≤ 8
  name : ∀ i, i < rs.length → (rs.getD i role0).name.length ≤ 20
  rk : ∀ i, i < rs.length → (rs.getD i role0).keys.length ≤ 8
theorem root_facts {r : RootL} (hv : rootB r = true) : RootFacts r.keys r.roles := by
  unfold rootB at hv
  simp only [Bool.and_eq_true] at hv
  obtain ⟨h1, _, h3⟩ := hv
  unfold root1 inB at h1
  simp only [Bool.and_eq_true, decide_eq_true_eq] at h1
  have h4 := of_decide_eq_true h3
  refine ⟨by omega, by omega, fun i hi => ?_, fun i hi => ?_⟩
  · have h5 := (h4 i hi).1
    generalize (r.roles.getD i role0).name = s at h5 ⊢
    unfold plainB inB at h5
    simp at h5
    omega
  · have h5 := ris_len _ _ (h4 i hi).2.2.2.1
    omega
theorem key_facts (r : RootL) (h : factsL [r.v]) : ∀ i, i < r.keys.length → (r.keys.getD i []).length = 32 := by
  simp only [factsL, factsS, RootL.v, EV.len, EV.sz, Nat.mul_one] at h
  obtain ⟨⟨-, -, ⟨-, h3⟩, -⟩, -⟩ := h
  intro i hi
  have h5 := h3 i hi
  simp only [factsL, factsS, EV.len, EV.sz, Nat.mul_one] at h5
  exact h5.1.1
theorem rootBytes_f (r : RootL) (hv : rootB r = false) : Fun Tryz.prog [] 27 [r.v] .nils := by
  have h1 := validRoot_spec r
  rw [hv] at h1
  refine Fun.mkF 7 Tryz.func27 rfl Tryz.ntmps27 rfl rfl fun hf T w0 => ?_
  obtain ⟨g, ex, ks, rs⟩ := r
  repeat' (first
    | ((with_reducible apply Sat.run (X := X64)); exact rfl; (first | exact True.intro | (exact phi) | skip))
    | ((with_reducible apply Sat.cond_t); exact rfl)
    | ((with_reducible apply Sat.callR (h1)); exact rfl; exact rfl; exact rfl; kernel_rfl; (exact cnvX); exact rfl) | fail)
  (refine Sat.fin (Sat.end1 rfl rfl rfl True.intro (.refl _ purX) (by first | exact .inl rfl | exact .inr rfl) (fun _ h => h)) ?_; rfl)
theorem hdrR_walk (g ex n : Int) : [] ++ [nb 82 (8 * (1 - 1) : Int).toNat] ++ [nb g (8 * (4 - 1) : Int).toNat] ++ [nb g (8 * (4 - 1 - 1) : Int).toNat] ++ [nb g (8 * (4 - 1 - 1 - 1) : Int).toNat] ++ [nb g (8 * (4 - 1 - 1 - 1 - 1) : Int).toNat] ++ [nb ex (8 * (4 - 1) : Int).toNat] ++ [nb ex (8 * (4 - 1 - 1) : Int).toNat] ++ [nb ex (8 * (4 - 1 - 1 - 1) : Int).toNat] ++ [nb ex (8 * (4 - 1 - 1 - 1 - 1) : Int).toNat]
    ++ [nb n (8 * (1 - 1) : Int).toNat] = hdrR g ex n := by
  have e : ∀ a : Int, (8 * (1 - 1) : Int).toNat = 0 ∧ (8 * (4 - 1) : Int).toNat = 24 ∧ (8 * (4 - 1 - 1) : Int).toNat = 16 ∧ (8 * (4 - 1 - 1 - 1) : Int).toNat = 8 ∧ (8 * (4 - 1 - 1 - 1 - 1) : Int).toNat = 0 := fun _ => by decide
  obtain ⟨e1, e4, e5, e6, e7⟩ := e 0
  rw [e1, e4, e5, e6, e7]
  simp only [hdrR, num1, num4, List.append_assoc, List.nil_append, List.cons_append]
@[reducible] def killQ : List Nat := [3, 12, 13, 14, 16, 17, 18, 19, 20, 21, 22, 23, 24, 25, 26, 27, 28, 29, 30, 31, 32, 33, 34, 35, 36, 37, 38, 39, 40, 41, 42, 43, 44, 45, 46, 47, 48, 49, 50, 51, 52, 53, 54, 55, 56, 57, 58, 59]
theorem rootBytes_t (g ex : Int) (ks : List (List UInt8)) (rs : List RoleL) (hv : rootB ⟨g, ex, ks, rs⟩ = true) : Fun Tryz.prog [] 27 [.agg [.int .i64 g, .int .i64 ex, .ro (keysE ks), .ro (rolesE rs)]] (.ro (.u8 (bytesQ ⟨g, ex, ks, rs⟩))) := by
  have h1 : Fun Tryz.prog [] 62 [.agg [.int .i64 g, .int .i64 ex, .ro (keysE ks), .ro (rolesE rs)]] (.bool (rootB ⟨g, ex, ks, rs⟩)) := validRoot_spec ⟨g, ex, ks, rs⟩
  rw [hv] at h1
  refine Fun.mkWF 7 Tryz.func27 rfl Tryz.ntmps27 rfl rfl fun hf T w0 hT => ?_
  have l1 := key_facts ⟨g, ex, ks, rs⟩ hf
  dsimp only at l1
  obtain ⟨c1, c2, c3, c4⟩ := root_facts hv
  dsimp only at c1 c2 c3 c4
  clear hf hv
  have b1 := buf_byte
  repeat' (first
    | ((with_reducible apply Sat.run (X := X64)); exact rfl; (first | exact True.intro | (exact phi) | skip))
    | ((with_reducible apply Sat.drawn); kernel_rfl)
    | ((with_reducible apply DSat.run (X := X64)); exact rfl; (first | exact True.intro | (exact phi) | skip))
    | ((with_reducible apply DSat.fin); kernel_rfl)
    | ((with_reducible apply Sat.cond_t); exact rfl)
    | ((with_reducible apply Sat.cond_f); exact rfl)
    | ((with_reducible apply Sat.callW (h1)); exact rfl; exact rfl; kernel_rfl; (exact cnvX); exact rfl)
    | ((with_reducible apply Sat.inl 7 kill3 Tryz.func53 Tryz.ntmps53); exact rfl; exact rfl; kernel_rfl; exact rfl; exact rfl; exact rfl; exact rfl; ((repeat' (first | exact AllP.nil | with_reducible refine AllP.cons ?_ ?_)) <;> (first | exact True.intro | exact purX)); intro _ _)
    | ((with_reducible apply Sat.out0 (C := ⟨_, _, _, _, _, _, _, _, _⟩)); exact rfl; (first | exact .inl rfl | exact .inr rfl); exact rfl)
    | (with_reducible apply Sat.unroll 40)
    | (with_reducible apply Sat.again)
    | ((with_reducible apply DSat.buf (b1 _)); exact rfl; kernel_rfl; (exact cnvX); exact rfl; exact rfl; ((repeat' (first | exact AllP.nil | with_reducible refine AllP.cons ?_ ?_)) <;> (first | exact rfl | exact True.intro | omega | (simp only [List.length_append, List.length_cons, List.length_nil]; done) | (simp only [List.length_append, List.length_cons, List.length_nil]; omega) | (simp only [List.length_append, List.length_cons, List.length_nil, *]; omega) | exact purX)); exact rfl; (exact fun _ h => h); (exact fun _ h => Or.inr h)) | fail)
  repeat' (first
    | ((with_reducible apply Sat.run (X := X64)); exact rfl; (first | exact True.intro | (exact phi) | skip))
    | ((with_reducible apply Sat.inl 7 kill3 Tryz.func63 Tryz.ntmps63); exact rfl; exact rfl; kernel_rfl; exact rfl; exact rfl; exact rfl; exact rfl; ((repeat' (first | exact AllP.nil | with_reducible refine AllP.cons ?_ ?_)) <;> (first | exact True.intro | exact purX)); intro _ _)
    | ((with_reducible apply Sat.inl 7 kill3 Tryz.func53 Tryz.ntmps53); exact rfl; exact rfl; kernel_rfl; exact rfl; exact rfl; exact rfl; exact rfl; ((repeat' (first | exact AllP.nil | with_reducible refine AllP.cons ?_ ?_)) <;> (first | exact True.intro | exact purX)); intro _ _) | fail)
  with_reducible apply Sat.unroll 40
  repeat' (first
    | ((with_reducible apply Sat.run (X := X64)); exact rfl; (first | exact True.intro | (exact phi) | skip))
    | ((with_reducible apply Sat.drawn); kernel_rfl)
    | ((with_reducible apply DSat.run (X := X64)); exact rfl; (first | exact True.intro | (exact phi) | skip))
    | ((with_reducible apply DSat.fin); kernel_rfl)
    | ((with_reducible apply Sat.cond_t); exact rfl)
    | ((with_reducible apply Sat.cond_f); exact rfl)
    | ((with_reducible apply Sat.out0 (C := ⟨_, _, _, _, _, _, _, _, _⟩)); exact rfl; (first | exact .inl rfl | exact .inr rfl); exact rfl)
    | (with_reducible apply Sat.again)
    | ((with_reducible apply DSat.buf (b1 _)); exact rfl; kernel_rfl; (exact cnvX); exact rfl; exact rfl; ((repeat' (first | exact AllP.nil | with_reducible refine AllP.cons ?_ ?_)) <;> (first | exact rfl | exact True.intro | omega | (simp only [List.length_append, List.length_cons, List.length_nil]; done) | (simp only [List.length_append, List.length_cons, List.length_nil]; omega) | (simp only [List.length_append, List.length_cons, List.length_nil, *]; omega) | exact purX)); exact rfl; (exact fun _ h => h); (exact fun _ h => Or.inr h)) | fail)
  clear h1
  apply Sat.loop (α := Nat × List UInt8) (fun x => x.1 ≤ ks.length ∧ x.2.length ≤ 100 + 32 * x.1 ∧ x.2 = hdrR g ex ks.length ++ (ks.take x.1).flatten) (fun x => ks.length - x.1) (0, hdrR g ex ks.length) (fun x => [(14, .int .i64 (x.1 : Int))]) (fun x => [(1, .cells 120 [.bsl 3 x.2.length, .int .i64 0, .anyi .i8]), (3, .row 5 (.u8 x.2))]) [12] [(3, some 12), (999, none)] 0
  · intro x; exact rfl
  · intro x; exact rfl
  · exact rfl
  · exact rfl
  · (repeat' (first | exact AllP.nil | with_reducible refine AllP.cons ?_ ?_)) <;> first | with_reducible exact rfl | exact congrArg EV.u8 (hdrR_walk g ex ks.length) | exact congrArg List.length (hdrR_walk g ex ks.length) | exact rfl | exact trivial | (intro _ _; simp [pureL, pureS, pureE]; done) | exact ⟨rfl, rfl, rfl, rfl⟩
  · exact ⟨Nat.zero_le _, by simp [hdrR], by simp⟩
  · rintro ⟨x, L⟩ ⟨x1, x2, x3⟩
    dsimp only at x1 x2 x3 ⊢
    by_cases hx : x < ks.length
    · have k5 : 32 = (ks.getD (x : Int).toNat []).length := (l1 x hx).symm
      have hh : ks.getD (x : Int).toNat [] ≠ [] := fun h => by rw [h] at k5; cases k5
      have b5 := buf_write _ hh
      clear hh
      repeat' (first
        | ((with_reducible apply Sat.run (X := X64)); exact rfl; (first | exact True.intro | (exact phi) | skip))
        | ((with_reducible apply Sat.drawn); kernel_rfl)
        | ((with_reducible apply DSat.run (X := X64)); exact rfl; (first | exact True.intro | (exact phi) | skip))
        | ((with_reducible apply DSat.fin); kernel_rfl)
        | ((with_reducible apply Sat.cond_pt); exact rfl; (try dsimp only [V.EV.sub, V.EV.len]); first | assumption | omega)
        | ((with_reducible apply Sat.inl 7 kill3 Tryz.func64 Tryz.ntmps64); exact rfl; exact rfl; kernel_rfl; exact rfl; exact rfl; exact rfl; exact rfl; ((repeat' (first | exact AllP.nil | with_reducible refine AllP.cons ?_ ?_)) <;> (first | exact True.intro | exact purX)); intro _ _)
        | ((with_reducible apply Sat.out0 (C := ⟨_, _, _, _, _, _, _, _, _⟩)); exact rfl; (first | exact .inl rfl | exact .inr rfl); exact rfl)
        | ((with_reducible apply DSat.buf (b5)); exact rfl; kernel_rfl; (exact cnvX); exact rfl; exact rfl; ((repeat' (first | exact AllP.nil | with_reducible refine AllP.cons ?_ ?_)) <;> (first | exact rfl | exact True.intro | omega | (simp only [List.length_append, List.length_cons, List.length_nil]; done) | (simp only [List.length_append, List.length_cons, List.length_nil]; omega) | (simp only [List.length_append, List.length_cons, List.length_nil, *]; omega) | exact purX)); exact rfl; (exact fun _ h => h); (exact fun _ h => Or.inr h)) | fail)
      refine Sat.back (x + 1, L ++ ks.getD (x : Int).toNat []) [(3, some 15), (999, none)] rfl ?_ ?_ ?_
      · (repeat' (first | exact AllP.nil | with_reducible refine AllP.cons ?_ ?_)) <;> first | with_reducible exact rfl | exact Int.natCast_add_one _ | exact rfl | exact trivial | (intro _ _; simp [pureL, pureS, pureE]; done) | exact ⟨rfl, rfl, rfl, rfl⟩
      · refine ⟨hx, by simp only [List.length_append]; omega, ?_⟩
        dsimp only
        rw [x3, List.append_assoc]
        congr 1
        rw [List.take_add_one, List.flatten_append]
        simp [List.getD_eq_getElem?_getD, hx]
      · dsimp only; omega
    · have hx : x = ks.length := by omega
      subst hx
      rw [List.take_length] at x3
      repeat' (first
        | ((with_reducible apply Sat.run (X := X64)); exact rfl; (first | exact True.intro | (exact phi) | skip))
        | ((with_reducible apply Sat.cond_pf); exact rfl; (try dsimp only [V.EV.sub, V.EV.len]); first | assumption | omega)
        | ((with_reducible apply Sat.out0 (C := ⟨_, _, _, _, _, _, _, _, _⟩)); exact rfl; (first | exact .inl rfl | exact .inr rfl); exact rfl) | fail)
      repeat' (first
        | ((with_reducible apply Sat.run (X := X64)); exact rfl; (first | exact True.intro | (exact phi) | skip))
        | ((with_reducible apply Sat.inl 7 kill3 Tryz.func65 Tryz.ntmps65); exact rfl; exact rfl; kernel_rfl; exact rfl; exact rfl; exact rfl; exact rfl; ((repeat' (first | exact AllP.nil | with_reducible refine AllP.cons ?_ ?_)) <;> (first | exact True.intro | exact purX)); intro _ _)
        | ((with_reducible apply Sat.inl 7 kill3 Tryz.func53 Tryz.ntmps53); exact rfl; exact rfl; kernel_rfl; exact rfl; exact rfl; exact rfl; exact rfl; ((repeat' (first | exact AllP.nil | with_reducible refine AllP.cons ?_ ?_)) <;> (first | exact True.intro | exact purX)); intro _ _) | fail)
      with_reducible apply Sat.unroll 40
      repeat' (first
        | ((with_reducible apply Sat.run (X := X64)); exact rfl; (first | exact True.intro | (exact phi) | skip))
        | ((with_reducible apply Sat.drawn); kernel_rfl)
        | ((with_reducible apply DSat.run (X := X64)); exact rfl; (first | exact True.intro | (exact phi) | skip))
        | ((with_reducible apply DSat.fin); kernel_rfl)
        | ((with_reducible apply Sat.cond_t); exact rfl)
        | ((with_reducible apply Sat.cond_f); exact rfl)
        | ((with_reducible apply Sat.out0 (C := ⟨_, _, _, _, _, _, _, _, _⟩)); exact rfl; (first | exact .inl rfl | exact .inr rfl); exact rfl)
        | (with_reducible apply Sat.again)
        | ((with_reducible apply DSat.buf (b1 _)); exact rfl; kernel_rfl; (exact cnvX); exact rfl; exact rfl; ((repeat' (first | exact AllP.nil | with_reducible refine AllP.cons ?_ ?_)) <;> (first | exact rfl | exact True.intro | omega | (simp only [List.length_append, List.length_cons, List.length_nil]; done) | (simp only [List.length_append, List.length_cons, List.length_nil]; omega) | (simp only [List.length_append, List.length_cons, List.length_nil, *]; omega) | exact purX)); exact rfl; (exact fun _ h => h); (exact fun _ h => Or.inr h)) | fail)
      have hL : L.length ≤ 400 := by omega
      clear x1 x2
      apply Sat.loop (α := Nat × List UInt8) (fun x => x.1 ≤ rs.length ∧ x.2.length ≤ 500 + 100 * x.1 ∧ x.2 = L ++ num1 rs.length ++ (rs.take x.1).flatMap roleW) (fun x => rs.length - x.1) (0, L ++ num1 rs.length) (fun x => [(14, .int .i64 (x.1 : Int))]) (fun x => [(1, .cells 120 [.bsl 3 x.2.length, .int .i64 0, .anyi .i8]), (3, .row 5 (.u8 x.2))]) [13] [(3, some 13), (999, none)] 0
      · intro x; exact rfl
      · intro x; exact rfl
      · exact rfl
      · exact rfl
      · (repeat' (first | exact AllP.nil | with_reducible refine AllP.cons ?_ ?_)) <;> first | with_reducible exact rfl | exact congrArg EV.u8 (num1_walk L rs.length) | exact congrArg List.length (num1_walk L rs.length) | exact rfl | exact trivial | (intro _ _; simp [pureL, pureS, pureE]; done) | exact ⟨rfl, rfl, rfl, rfl⟩
      · exact ⟨Nat.zero_le _, by simp; omega, by simp⟩
      · rintro ⟨y, K⟩ ⟨y1, y2, y3⟩
        dsimp only at y1 y2 y3 ⊢
        by_cases hy : y < rs.length
        · have h6 : (rs.getD (y : Int).toNat role0).name.length ≤ 20 := c3 y hy
          have h7 : (rs.getD (y : Int).toNat role0).keys.length ≤ 8 := c4 y hy
          have b4 := buf_str (rs.getD (y : Int).toNat role0).name
          have e6 : (rs.take (y + 1)).flatMap roleW = (rs.take y).flatMap roleW ++ roleW (rs.getD (y : Int).toNat role0) := take_flat _ rs role0 y hy
          repeat' (first
            | ((with_reducible apply Sat.run (X := X64)); exact rfl; (first | exact True.intro | (exact phi) | skip))
            | ((with_reducible apply Sat.drawn); kernel_rfl)
            | ((with_reducible apply DSat.run (X := X64)); exact rfl; (first | exact True.intro | (exact phi) | skip))
            | ((with_reducible apply DSat.fin); kernel_rfl)
            | ((with_reducible apply Sat.cond_t); exact rfl)
            | ((with_reducible apply Sat.cond_f); exact rfl)
            | ((with_reducible apply Sat.cond_pt); exact rfl; (try dsimp only [V.EV.sub, V.EV.len]); first | assumption | omega)
            | ((with_reducible apply Sat.inl 7 kill3 Tryz.func66 Tryz.ntmps66); exact rfl; exact rfl; kernel_rfl; exact rfl; exact rfl; exact rfl; exact rfl; ((repeat' (first | exact AllP.nil | with_reducible refine AllP.cons ?_ ?_)) <;> (first | exact True.intro | exact purX)); intro _ _)
            | ((with_reducible apply Sat.inl 7 killQ Tryz.func59 Tryz.ntmps59); exact rfl; exact rfl; kernel_rfl; exact rfl; exact rfl; exact rfl; exact rfl; ((repeat' (first | exact AllP.nil | with_reducible refine AllP.cons ?_ ?_)) <;> (first | exact True.intro | exact purX)); intro _ _)
            | ((with_reducible apply Sat.inl 7 killQ Tryz.func53 Tryz.ntmps53); exact rfl; exact rfl; kernel_rfl; exact rfl; exact rfl; exact rfl; exact rfl; ((repeat' (first | exact AllP.nil | with_reducible refine AllP.cons ?_ ?_)) <;> (first | exact True.intro | exact purX)); intro _ _)
            | ((with_reducible apply Sat.out0 (C := ⟨_, _, _, _, _, _, _, _, _⟩)); exact rfl; (first | exact .inl rfl | exact .inr rfl); exact rfl)
            | (with_reducible apply Sat.unroll 40)
            | (with_reducible apply Sat.again)
            | ((with_reducible apply DSat.buf (b1 _)); exact rfl; kernel_rfl; (exact cnvX); exact rfl; exact rfl; ((repeat' (first | exact AllP.nil | with_reducible refine AllP.cons ?_ ?_)) <;> (first | exact rfl | exact True.intro | omega | (simp only [List.length_append, List.length_cons, List.length_nil]; done) | (simp only [List.length_append, List.length_cons, List.length_nil]; omega) | (simp only [List.length_append, List.length_cons, List.length_nil, *]; omega) | exact purX)); exact rfl; (exact fun _ h => h); (exact fun _ h => Or.inr h))
            | ((with_reducible apply Sat.buf (b4)); exact rfl; kernel_rfl; (exact cnvX); exact rfl; ((repeat' (first | exact AllP.nil | with_reducible refine AllP.cons ?_ ?_)) <;> (first | exact rfl | exact True.intro | omega | (simp only [List.length_append, List.length_cons, List.length_nil]; done) | (simp only [List.length_append, List.length_cons, List.length_nil]; omega) | (simp only [List.length_append, List.length_cons, List.length_nil, *]; omega) | exact purX)); exact rfl; (exact fun _ h => h); (exact fun _ h => Or.inr h)) | fail)
          repeat' (first
            | ((with_reducible apply Sat.run (X := X64)); exact rfl; (first | exact True.intro | (exact phi) | skip))
            | ((with_reducible apply Sat.inl 7 killQ Tryz.func55 Tryz.ntmps55); exact rfl; exact rfl; kernel_rfl; exact rfl; exact rfl; exact rfl; exact rfl; ((repeat' (first | exact AllP.nil | with_reducible refine AllP.cons ?_ ?_)) <;> (first | exact True.intro | exact purX)); intro _ _)
            | ((with_reducible apply Sat.inl 7 killQ Tryz.func53 Tryz.ntmps53); exact rfl; exact rfl; kernel_rfl; exact rfl; exact rfl; exact rfl; exact rfl; ((repeat' (first | exact AllP.nil | with_reducible refine AllP.cons ?_ ?_)) <;> (first | exact True.intro | exact purX)); intro _ _) | fail)
          with_reducible apply Sat.unroll 40
          repeat' (first
            | ((with_reducible apply Sat.run (X := X64)); exact rfl; (first | exact True.intro | (exact phi) | skip))
            | ((with_reducible apply Sat.drawn); kernel_rfl)
            | ((with_reducible apply DSat.run (X := X64)); exact rfl; (first | exact True.intro | (exact phi) | skip))
            | ((with_reducible apply DSat.fin); kernel_rfl)
            | ((with_reducible apply Sat.cond_t); exact rfl)
            | ((with_reducible apply Sat.cond_f); exact rfl)
            | ((with_reducible apply Sat.out0 (C := ⟨_, _, _, _, _, _, _, _, _⟩)); exact rfl; (first | exact .inl rfl | exact .inr rfl); exact rfl)
            | (with_reducible apply Sat.again)
            | ((with_reducible apply DSat.buf (b1 _)); exact rfl; kernel_rfl; (exact cnvX); exact rfl; exact rfl; ((repeat' (first | exact AllP.nil | with_reducible refine AllP.cons ?_ ?_)) <;> (first | exact rfl | exact True.intro | omega | (simp only [List.length_append, List.length_cons, List.length_nil]; done) | (simp only [List.length_append, List.length_cons, List.length_nil]; omega) | (simp only [List.length_append, List.length_cons, List.length_nil, *]; omega) | exact purX)); exact rfl; (exact fun _ h => h); (exact fun _ h => Or.inr h)) | fail)
          have f1 : K ++ [nb (rs.getD (y : Int).toNat role0).name.length (8 * (1 - 1) : Int).toNat] ++ (rs.getD (y : Int).toNat role0).name ++ [nb (rs.getD (y : Int).toNat role0).keys.length (8 * (1 - 1) : Int).toNat] = K ++ num1 (rs.getD (y : Int).toNat role0).name.length ++ (rs.getD (y : Int).toNat role0).name ++ num1 (rs.getD (y : Int).toNat role0).keys.length := by rw [num1_walk, num1_walk]
          have f2 : (K ++ num1 (rs.getD (y : Int).toNat role0).name.length ++ (rs.getD (y : Int).toNat role0).name ++ num1 (rs.getD (y : Int).toNat role0).keys.length).length ≤ 530 + 100 * y := by simp only [List.length_append, num1_len]; omega
          apply Sat.loop (α := Nat × List UInt8) (fun x => x.1 ≤ (rs.getD (y : Int).toNat role0).keys.length ∧ x.2.length ≤ 530 + 100 * y + x.1 ∧ x.2 = K ++ num1 (rs.getD (y : Int).toNat role0).name.length ++ (rs.getD (y : Int).toNat role0).name ++ num1 (rs.getD (y : Int).toNat role0).keys.length ++ ((rs.getD (y : Int).toNat role0).keys.take x.1).flatMap num1) (fun x => (rs.getD (y : Int).toNat role0).keys.length - x.1) (0, K ++ num1 (rs.getD (y : Int).toNat role0).name.length ++ (rs.getD (y : Int).toNat role0).name ++ num1 (rs.getD (y : Int).toNat role0).keys.length) (fun x => [(14, .int .i64 (x.1 : Int))]) (fun x => [(1, .cells 120 [.bsl 3 x.2.length, .int .i64 0, .anyi .i8]), (3, .row 5 (.u8 x.2))]) [18] [(3, some 18), (999, none)] 0
          · intro x; exact rfl
          · intro x; exact rfl
          · exact rfl
          · exact rfl
          · (repeat' (first | exact AllP.nil | with_reducible refine AllP.cons ?_ ?_)) <;> first | with_reducible exact rfl | exact congrArg EV.u8 f1 | exact congrArg List.length f1 | exact rfl | exact trivial | (intro _ _; simp [pureL, pureS, pureE]; done) | exact ⟨rfl, rfl, rfl, rfl⟩
          · exact ⟨Nat.zero_le _, by dsimp only; omega, by simp⟩
          · rintro ⟨u, J⟩ ⟨u1, u2, u3⟩
            dsimp only at u1 u2 u3 ⊢
            repeat' (first
              | ((with_reducible apply Sat.run (X := X64)); exact rfl; (first | exact True.intro | (exact phi) | skip))
              | ((with_reducible apply Sat.drawn); kernel_rfl)
              | ((with_reducible apply DSat.run (X := X64)); exact rfl; (first | exact True.intro | (exact phi) | skip))
              | ((with_reducible apply DSat.fin); kernel_rfl)
              | ((with_reducible apply Sat.cond_t); exact rfl)
              | ((with_reducible apply Sat.cond_f); exact rfl)
              | ((with_reducible apply Sat.cond_p); exact rfl; all_goals intro h)
              | ((with_reducible apply Sat.inl 7 killQ Tryz.func67 Tryz.ntmps67); exact rfl; exact rfl; kernel_rfl; exact rfl; exact rfl; exact rfl; exact rfl; ((repeat' (first | exact AllP.nil | with_reducible refine AllP.cons ?_ ?_)) <;> (first | exact True.intro | exact purX)); intro _ _)
              | ((with_reducible apply Sat.inl 7 killQ Tryz.func53 Tryz.ntmps53); exact rfl; exact rfl; kernel_rfl; exact rfl; exact rfl; exact rfl; exact rfl; ((repeat' (first | exact AllP.nil | with_reducible refine AllP.cons ?_ ?_)) <;> (first | exact True.intro | exact purX)); intro _ _)
              | ((with_reducible apply Sat.out0 (C := ⟨_, _, _, _, _, _, _, _, _⟩)); exact rfl; (first | exact .inl rfl | exact .inr rfl); exact rfl)
              | (with_reducible apply Sat.unroll 40)
              | (with_reducible apply Sat.again)
              | ((with_reducible apply DSat.buf (b1 _)); exact rfl; kernel_rfl; (exact cnvX); exact rfl; exact rfl; ((repeat' (first | exact AllP.nil | with_reducible refine AllP.cons ?_ ?_)) <;> (first | exact rfl | exact True.intro | omega | (simp only [List.length_append, List.length_cons, List.length_nil]; done) | (simp only [List.length_append, List.length_cons, List.length_nil]; omega) | (simp only [List.length_append, List.length_cons, List.length_nil, *]; omega) | exact purX)); exact rfl; (exact fun _ h => h); (exact fun _ h => Or.inr h)) | fail)
            · have hu : u < (rs.getD (y : Int).toNat role0).keys.length := by simp only [EV.len] at h; omega
              refine Sat.back (u + 1, J ++ num1 ((rs.getD (y : Int).toNat role0).keys.getD u 0)) [(3, some 19), (999, none)] rfl ?_ ?_ ?_
              · (repeat' (first | exact AllP.nil | with_reducible refine AllP.cons ?_ ?_)) <;> first | with_reducible exact rfl | exact congrArg EV.u8 (num1_walk J _) | exact congrArg List.length (num1_walk J _) | exact Int.natCast_add_one _ | exact rfl | exact trivial | (intro _ _; simp [pureL, pureS, pureE]; done) | exact ⟨rfl, rfl, rfl, rfl⟩
              · refine ⟨hu, by simp only [List.length_append, num1_len]; omega, ?_⟩
                dsimp only
                rw [u3, take_flat num1 _ 0 u hu, List.append_assoc]
              · dsimp only; omega
            · have hu : u = (rs.getD (y : Int).toNat role0).keys.length := by simp only [EV.len] at h; omega
              rw [hu, List.take_length] at u3
              have f3 : J ++ [nb (rs.getD (y : Int).toNat role0).need (8 * (1 - 1) : Int).toNat] = K ++ roleW (rs.getD (y : Int).toNat role0) := by
                rw [num1_walk, u3]
                simp only [roleW, List.append_assoc]
              have f4 : (K ++ roleW (rs.getD (y : Int).toNat role0)).length ≤ 600 + 100 * y := by
                rw [← f3, List.length_append]
                simp only [List.length_cons, List.length_nil]
                omega
              refine Sat.back (y + 1, K ++ roleW (rs.getD (y : Int).toNat role0)) [(3, some 19), (999, none)] rfl ?_ ?_ ?_
              · (repeat' (first | exact AllP.nil | with_reducible refine AllP.cons ?_ ?_)) <;> first | with_reducible exact rfl | exact congrArg EV.u8 f3 | exact congrArg List.length f3 | exact Int.natCast_add_one _ | exact rfl | exact trivial | (intro _ _; simp [pureL, pureS, pureE]; done) | exact ⟨rfl, rfl, rfl, rfl⟩
              · refine ⟨hy, by dsimp only; omega, ?_⟩
                dsimp only
                rw [y3, e6, List.append_assoc]
              · dsimp only; omega
        · have hx : y = rs.length := by omega
          subst hx
          rw [List.take_length] at y3
          repeat' (first
            | ((with_reducible apply Sat.run (X := X64)); exact rfl; (first | exact True.intro | (exact phi) | skip))
            | ((with_reducible apply Sat.drawn); kernel_rfl)
            | ((with_reducible apply DSat.run (X := X64)); exact rfl; (first | exact True.intro | (exact phi) | skip))
            | ((with_reducible apply DSat.fin); kernel_rfl)
            | ((with_reducible apply Sat.cond_pf); exact rfl; (try dsimp only [V.EV.sub, V.EV.len]); first | assumption | omega)
            | ((with_reducible apply Sat.inl 7 kill3 Tryz.func60 Tryz.ntmps60); exact rfl; exact rfl; kernel_rfl; exact rfl; exact rfl; exact rfl; exact rfl; ((repeat' (first | exact AllP.nil | with_reducible refine AllP.cons ?_ ?_)) <;> (first | exact True.intro | exact purX)); intro _ _)
            | ((with_reducible apply Sat.out1 (C := ⟨_, _, _, _, _, _, _, _, _⟩)); exact rfl; (first | exact .inl rfl | exact .inr rfl); exact rfl; (exact phi); exact rfl)
            | ((with_reducible apply Sat.out0 (C := ⟨_, _, _, _, _, _, _, _, _⟩)); exact rfl; (first | exact .inl rfl | exact .inr rfl); exact rfl) | fail)
          refine Sat.narrow hT (fun _ h => h) ?_
          refine Sat.fin (Sat.end1 rfl rfl rfl True.intro (.all _ _ _ _ _ rfl rfl (by simp [EV.len]) trivial) (by first | exact .inl rfl | exact .inr rfl) (fun _ h => h)) ?_
          refine congrArg (fun x => SV.ro (EV.u8 x)) ?_
          rw [y3, x3]
          simp only [bytesQ, List.append_assoc]
theorem rootBytes_spec (r : RootL) (hv : rootB r = true) : Fun Tryz.prog [] 27 [r.v] (.ro (.u8 (bytesQ r))) := by
  obtain ⟨g, ex, ks, rs⟩ := r
  exact rootBytes_t g ex ks rs hv
end Go.Proofs.YtokaegeediokoaaGreatDoor
end
section
namespace Go.Proofs.YtokaegeediokoaaGreatDoor
open Go.RowKit V
set_option maxRecDepth 100000
set_option maxHeartbeats 8000000
set_option linter.unusedSimpArgs false
attribute [local irreducible] V.Sat V.DSat
theorem lit_one (n : Int) : List.take 1 (List.drop 0 [UInt8.ofNat (IntKind.u8.wrap n).toNat]) = num1 n := by rw [num1, nb_zero]; rfl
theorem cut_all (l : List UInt8) (h : l.length = 32) : List.take (32 - 0) (List.drop 0 l) = l := by rw [List.drop_zero, List.take_of_length_le (by omega)]
theorem rootBytesR_t (g ex : Int) (ks : List (List UInt8)) (rs : List RoleL) (hv : rootB ⟨g, ex, ks, rs⟩ = true) : Fun Tryz.prog [] 36 [.agg [.int .i64 g, .int .i64 ex, .ro (keysE ks), .ro (rolesE rs)]] (.ro (.u8 (bytesQ ⟨g, ex, ks, rs⟩))) := by
  have h1 : Fun Tryz.prog [] 85 [.agg [.int .i64 g, .int .i64 ex, .ro (keysE ks), .ro (rolesE rs)]] (.bool (rootB ⟨g, ex, ks, rs⟩)) := validRoot_ref ⟨g, ex, ks, rs⟩
  rw [hv] at h1
  refine Fun.mkF 7 Tryz.func36 rfl Tryz.ntmps36 rfl rfl fun hf T w0 => ?_
  have l1 := key_facts ⟨g, ex, ks, rs⟩ hf
  dsimp only at l1
  obtain ⟨c1, c2, c3, c4⟩ := root_facts hv
  dsimp only at c1 c2 c3 c4
  clear hf hv
  have n1 := num4_ref g
  have n2 := num4_ref ex
  have w1 := num4_len g
  have w2 := num4_len ex
  generalize e1 : num4 g = A1 at n1 w1
  generalize e2 : num4 ex = A2 at n2 w2
  have e0 : [UInt8.ofNat (Int.toNat 82)] ++ A1 ++ A2 ++ List.take 1 (List.drop 0 [UInt8.ofNat (IntKind.u8.wrap (ks.length : Int)).toNat]) = hdrR g ex ks.length := by
    rw [← e1, ← e2, lit_one]
    rfl
  clear e1 e2
  have hLe : (hdrR g ex ks.length).length = 10 := by rw [← e0]; simp only [List.length_append, List.length_cons, List.length_nil, List.length_take, List.length_drop]; omega
  repeat' (first
    | ((with_reducible apply Sat.run (X := X64)); exact rfl; (first | exact True.intro | (exact phi) | skip))
    | ((with_reducible apply Sat.cond_f); exact rfl)
    | ((with_reducible apply Sat.callR (h1)); exact rfl; exact rfl; exact rfl; kernel_rfl; (exact cnvX); exact rfl)
    | ((with_reducible apply Sat.call (n1)); exact rfl; exact rfl; kernel_rfl; (exact cnvX); exact rfl)
    | ((with_reducible apply Sat.call (n2)); exact rfl; exact rfl; kernel_rfl; (exact cnvX); exact rfl) | fail)
  clear h1 n1 n2
  with_reducible apply Sat.drop
  · exact rfl
  · (repeat' (first | exact AllP.nil | with_reducible refine AllP.cons ?_ ?_)) <;> (intro _ _; simp [pureL, pureS, pureE]; done)
  refine Sat.kill [27, 28] rfl ?_
  apply Sat.loop (α := Nat × List UInt8) (fun x => x.1 ≤ ks.length ∧ x.2.length ≤ 100 + 32 * x.1 ∧ x.2 = hdrR g ex ks.length ++ (ks.take x.1).flatten) (fun x => ks.length - x.1) (0, hdrR g ex ks.length) (fun x => [(4, .int .i64 (x.1 : Int)), (3, .row 1 0 1 0 x.2.length)]) (fun x => [(1, .row 5 (.u8 x.2))]) [4, 5] [(1, some 5)] 0
  · intro x; exact rfl
  · intro x; exact rfl
  · exact rfl
  · exact rfl
  · (repeat' (first | exact AllP.nil | with_reducible refine AllP.cons ?_ ?_)) <;> first | with_reducible exact rfl | exact congrArg EV.u8 e0 | with_reducible exact ⟨rfl, rfl, rfl, rfl⟩ | exact Int.natCast_add_one _ | (refine ⟨rfl, rfl, rfl, ?_⟩; show _ = (hdrR g ex ks.length).length; rw [hLe]; simp only [EV.len, EV.sub, num1_len, num4_len, List.length_append, List.length_take, List.length_drop, List.length_cons, List.length_nil, Option.getD_none] <;> omega) | exact rfl | exact trivial | (intro _ _; simp [pureL, pureS, pureE]; done) | exact ⟨rfl, rfl, rfl, rfl⟩
  · exact ⟨Nat.zero_le _, by dsimp only; omega, by simp⟩
  · rintro ⟨x, L⟩ ⟨x1, x2, x3⟩
    dsimp only at x1 x2 x3 ⊢
    by_cases hx : x < ks.length
    · have k5 : 32 = (ks.getD (x : Int).toNat []).length := (l1 x hx).symm
      repeat' (first
        | ((with_reducible apply Sat.run (X := X64)); exact rfl; (first | exact True.intro | (exact phi) | skip))
        | ((with_reducible apply Sat.cond_pt); exact rfl; (try dsimp only [V.EV.sub, V.EV.len]); first | assumption | omega) | fail)
      have f0 : List.take (32 - 0) (List.drop 0 (ks.getD (x : Int).toNat [])) = ks.getD (x : Int).toNat [] := cut_all _ k5.symm
      have f1 : L ++ List.take (32 - 0) (List.drop 0 (ks.getD (x : Int).toNat [])) = L ++ ks.getD (x : Int).toNat [] := by rw [f0]
      refine Sat.back (x + 1, L ++ ks.getD (x : Int).toNat []) [(1, some 6)] rfl ?_ ?_ ?_
      · (repeat' (first | exact AllP.nil | with_reducible refine AllP.cons ?_ ?_)) <;> first | with_reducible exact rfl | exact congrArg EV.u8 f1 | with_reducible exact ⟨rfl, rfl, rfl, rfl⟩ | exact Int.natCast_add_one _ | (refine ⟨rfl, rfl, rfl, ?_⟩; show _ = (L ++ ks.getD (x : Int).toNat []).length; rw [← f1]; simp only [EV.len, EV.sub, List.length_append, Option.getD_none]; done) | exact rfl | exact trivial | (intro _ _; simp [pureL, pureS, pureE]; done) | exact ⟨rfl, rfl, rfl, rfl⟩
      · refine ⟨hx, by simp only [List.length_append]; omega, ?_⟩
        dsimp only
        rw [x3, List.append_assoc]
        congr 1
        rw [List.take_add_one, List.flatten_append]
        simp [List.getD_eq_getElem?_getD, hx]
      · dsimp only; omega
    · have hx : x = ks.length := by omega
      subst hx
      rw [List.take_length] at x3
      repeat' (first
        | ((with_reducible apply Sat.run (X := X64)); exact rfl; (first | exact True.intro | (exact phi) | skip))
        | ((with_reducible apply Sat.cond_pf); exact rfl; (try dsimp only [V.EV.sub, V.EV.len]); first | assumption | omega) | fail)
      have hL : L.length ≤ 400 := by omega
      clear x1 x2
      have e3 : L ++ List.take 1 (List.drop 0 [UInt8.ofNat (IntKind.u8.wrap (rs.length : Int)).toNat]) = L ++ num1 rs.length := by rw [lit_one]
      with_reducible apply Sat.drop
      · exact rfl
      · (repeat' (first | exact AllP.nil | with_reducible refine AllP.cons ?_ ?_)) <;> (intro _ _; simp [pureL, pureS, pureE]; done)
      refine Sat.kill [48, 49] rfl ?_
      apply Sat.loop (α := Nat × List UInt8) (fun x => x.1 ≤ rs.length ∧ x.2.length ≤ 500 + 100 * x.1 ∧ x.2 = L ++ num1 rs.length ++ (rs.take x.1).flatMap roleW) (fun x => rs.length - x.1) (0, L ++ num1 rs.length) (fun x => [(5, .int .i64 (x.1 : Int)), (3, .row 1 0 1 0 x.2.length)]) (fun x => [(1, .row 5 (.u8 x.2))]) [6, 7] [(1, some 7)] 0
      · intro x; exact rfl
      · intro x; exact rfl
      · exact rfl
      · exact rfl
      · (repeat' (first | exact AllP.nil | with_reducible refine AllP.cons ?_ ?_)) <;> first | with_reducible exact rfl | exact congrArg EV.u8 e3 | with_reducible exact ⟨rfl, rfl, rfl, rfl⟩ | exact Int.natCast_add_one _ | (refine ⟨rfl, rfl, rfl, ?_⟩; show _ = (L ++ num1 rs.length).length; simp only [EV.len, EV.sub, num1_len, num4_len, List.length_append, List.length_take, List.length_drop, List.length_cons, List.length_nil, Option.getD_none] <;> omega) | exact rfl | exact trivial | (intro _ _; simp [pureL, pureS, pureE]; done) | exact ⟨rfl, rfl, rfl, rfl⟩
      · exact ⟨Nat.zero_le _, by simp; omega, by simp⟩
      · rintro ⟨y, K⟩ ⟨y1, y2, y3⟩
        dsimp only at y1 y2 y3 ⊢
        by_cases hy : y < rs.length
        · have h6 : (rs.getD (y : Int).toNat role0).name.length ≤ 20 := c3 y hy
          have h7 : (rs.getD (y : Int).toNat role0).keys.length ≤ 8 := c4 y hy
          have e6 : (rs.take (y + 1)).flatMap roleW = (rs.take y).flatMap roleW ++ roleW (rs.getD (y : Int).toNat role0) := take_flat _ rs role0 y hy
          have n1 := text_ref (rs.getD (y : Int).toNat role0).name h6
          have w1 : (num1 (rs.getD (y : Int).toNat role0).name.length ++ (rs.getD (y : Int).toNat role0).name).length ≤ 21 := by simp only [List.length_append, num1_len]; omega
          generalize e1 : num1 (rs.getD (y : Int).toNat role0).name.length ++ (rs.getD (y : Int).toNat role0).name = A1 at n1 w1
          repeat' (first
            | ((with_reducible apply Sat.run (X := X64)); exact rfl; (first | exact True.intro | (exact phi) | skip))
            | ((with_reducible apply Sat.cond_pt); exact rfl; (try dsimp only [V.EV.sub, V.EV.len]); first | assumption | omega)
            | ((with_reducible apply Sat.call (n1)); exact rfl; exact rfl; kernel_rfl; (exact cnvX); exact rfl) | fail)
          have f1 : K ++ A1 ++ List.take 1 (List.drop 0 [UInt8.ofNat (IntKind.u8.wrap ((rs.getD (y : Int).toNat role0).keys.length : Int)).toNat]) = K ++ A1 ++ num1 (rs.getD (y : Int).toNat role0).keys.length := by rw [lit_one]
          with_reducible apply Sat.drop
          · exact rfl
          · (repeat' (first | exact AllP.nil | with_reducible refine AllP.cons ?_ ?_)) <;> (intro _ _; simp [pureL, pureS, pureE]; done)
          refine Sat.kill [72, 73] rfl ?_
          apply Sat.loop (α := Nat × List UInt8) (fun x => x.1 ≤ (rs.getD (y : Int).toNat role0).keys.length ∧ x.2.length ≤ 530 + 100 * y + x.1 ∧ x.2 = K ++ A1 ++ num1 (rs.getD (y : Int).toNat role0).keys.length ++ ((rs.getD (y : Int).toNat role0).keys.take x.1).flatMap num1) (fun x => (rs.getD (y : Int).toNat role0).keys.length - x.1) (0, K ++ A1 ++ num1 (rs.getD (y : Int).toNat role0).keys.length) (fun x => [(7, .int .i64 (x.1 : Int)), (3, .row 1 0 1 0 x.2.length)]) (fun x => [(1, .row 5 (.u8 x.2))]) [10, 11] [(1, some 11)] 0
          · intro x; exact rfl
          · intro x; exact rfl
          · exact rfl
          · exact rfl
          · (repeat' (first | exact AllP.nil | with_reducible refine AllP.cons ?_ ?_)) <;> first | with_reducible exact rfl | exact congrArg EV.u8 f1 | with_reducible exact ⟨rfl, rfl, rfl, rfl⟩ | exact Int.natCast_add_one _ | (refine ⟨rfl, rfl, rfl, ?_⟩; show _ = (K ++ A1 ++ num1 (rs.getD (y : Int).toNat role0).keys.length).length; simp only [EV.len, EV.sub, num1_len, num4_len, List.length_append, List.length_take, List.length_drop, List.length_cons, List.length_nil, Option.getD_none] <;> omega) | exact rfl | exact trivial | (intro _ _; simp [pureL, pureS, pureE]; done) | exact ⟨rfl, rfl, rfl, rfl⟩
          · exact ⟨Nat.zero_le _, by simp only [List.length_append, num1_len]; omega, by simp⟩
          · rintro ⟨u, J⟩ ⟨u1, u2, u3⟩
            dsimp only at u1 u2 u3 ⊢
            repeat' (first
              | ((with_reducible apply Sat.run (X := X64)); exact rfl; (first | exact True.intro | (exact phi) | skip))
              | ((with_reducible apply Sat.cond_p); exact rfl; all_goals intro h) | fail)
            · have hu : u < (rs.getD (y : Int).toNat role0).keys.length := by simp only [EV.len] at h; omega
              have f2 : J ++ List.take 1 (List.drop 0 [UInt8.ofNat (IntKind.u8.wrap ((rs.getD (y : Int).toNat role0).keys.getD (u : Int).toNat 0)).toNat]) = J ++ num1 ((rs.getD (y : Int).toNat role0).keys.getD u 0) := lit_one _ ▸ rfl
              refine Sat.back (u + 1, J ++ num1 ((rs.getD (y : Int).toNat role0).keys.getD u 0)) [(1, some 13)] rfl ?_ ?_ ?_
              · (repeat' (first | exact AllP.nil | with_reducible refine AllP.cons ?_ ?_)) <;> first | with_reducible exact rfl | exact congrArg EV.u8 f2 | with_reducible exact ⟨rfl, rfl, rfl, rfl⟩ | exact Int.natCast_add_one _ | (refine ⟨rfl, rfl, rfl, ?_⟩; show _ = (J ++ num1 ((rs.getD (y : Int).toNat role0).keys.getD u 0)).length; simp only [EV.len, EV.sub, num1_len, num4_len, List.length_append, List.length_take, List.length_drop, List.length_cons, List.length_nil, Option.getD_none] <;> omega) | exact rfl | exact trivial | (intro _ _; simp [pureL, pureS, pureE]; done) | exact ⟨rfl, rfl, rfl, rfl⟩
              · refine ⟨hu, by simp only [List.length_append, num1_len]; omega, ?_⟩
                dsimp only
                rw [u3, take_flat num1 _ 0 u hu, List.append_assoc]
              · dsimp only; omega
            · have hu : u = (rs.getD (y : Int).toNat role0).keys.length := by simp only [EV.len] at h; omega
              rw [hu, List.take_length] at u3
              have f3 : J ++ List.take 1 (List.drop 0 [UInt8.ofNat (IntKind.u8.wrap (rs.getD (y : Int).toNat role0).need).toNat]) = K ++ roleW (rs.getD (y : Int).toNat role0) := by
                rw [lit_one, u3, ← e1]
                simp only [roleW, List.append_assoc]
              have f4 : (K ++ roleW (rs.getD (y : Int).toNat role0)).length ≤ 600 + 100 * y := by
                rw [← f3, lit_one, List.length_append, num1_len]
                omega
              refine Sat.back (y + 1, K ++ roleW (rs.getD (y : Int).toNat role0)) [(1, some 13)] rfl ?_ ?_ ?_
              · (repeat' (first | exact AllP.nil | with_reducible refine AllP.cons ?_ ?_)) <;> first | with_reducible exact rfl | exact congrArg EV.u8 f3 | with_reducible exact ⟨rfl, rfl, rfl, rfl⟩ | exact Int.natCast_add_one _ | (refine ⟨rfl, rfl, rfl, ?_⟩; show _ = (K ++ roleW (rs.getD (y : Int).toNat role0)).length; rw [← f3]; simp only [EV.len, EV.sub, num1_len, num4_len, List.length_append, List.length_take, List.length_drop, List.length_cons, List.length_nil, Option.getD_none] <;> omega) | exact rfl | exact trivial | (intro _ _; simp [pureL, pureS, pureE]; done) | exact ⟨rfl, rfl, rfl, rfl⟩
              · refine ⟨hy, by dsimp only; omega, ?_⟩
                dsimp only
                rw [y3, e6, List.append_assoc]
              · dsimp only; omega
        · have hx : y = rs.length := by omega
          subst hx
          rw [List.take_length] at y3
          repeat' (first
            | ((with_reducible apply Sat.run (X := X64)); exact rfl; (first | exact True.intro | (exact phi) | skip))
            | ((with_reducible apply Sat.cond_pf); exact rfl; (try dsimp only [V.EV.sub, V.EV.len]); first | assumption | omega) | fail)
          refine Sat.fin (Sat.end1 rfl rfl rfl True.intro (.all _ _ _ _ _ rfl rfl (by simp [EV.len]) trivial) (by first | exact .inl rfl | exact .inr rfl) (fun _ h => h)) ?_
          refine congrArg (fun x => SV.ro (EV.u8 x)) ?_
          rw [y3, x3]
          simp only [bytesQ, List.append_assoc]
theorem rootBytesR_spec (r : RootL) (hv : rootB r = true) : Fun Tryz.prog [] 36 [r.v] (.ro (.u8 (bytesQ r))) := by
  obtain ⟨g, ex, ks, rs⟩ := r
  exact rootBytesR_t g ex ks rs hv
end Go.Proofs.YtokaegeediokoaaGreatDoor
end
section
namespace Go.Proofs.YtokaegeediokoaaGreatDoor
open Go.RowKit V
set_option maxRecDepth 100000
set_option maxHeartbeats 8000000
set_option linter.unusedSimpArgs false
attribute [local irreducible] V.Sat V.DSat
def tkO (l : List UInt8) (n : Nat) : List UInt8 := if n ≤ l.length then l.take n else []
def tkR (l : List UInt8) (n : Nat) : List UInt8 := if n ≤ l.length then l.drop n else []
def tkB (l : List UInt8) (bad : Bool) (n : Nat) : Bool := if n ≤ l.length then bad else true
theorem take_spec (l : List UInt8) (bad : Bool) (n : Nat) : MFun Tryz.prog [] 133 [.int .i64 (n : Int)] 201 [.ro (.u8 l), .bool bad] [.ro (.u8 (tkR l n)), .bool (tkB l bad n)] (.ro (.u8 (tkO l n))) := by
  refine MFun.mk 6 Tryz.func133 rfl Tryz.ntmps133 rfl rfl fun hf hg T w b hT hTb => ?_
  unfold tkO tkR tkB
  by_cases h0 : n ≤ l.length
  · rw [if_pos h0, if_pos h0, if_pos h0]
    repeat' (first
      | ((with_reducible apply Sat.run (X := X64)); exact rfl; (first | exact True.intro | (exact phi) | skip))
      | ((with_reducible apply Sat.cond_pf); exact rfl; (try dsimp only [V.EV.sub, V.EV.len]); first | assumption | omega) | fail)
    refine Sat.mfin (Sat.mend1 hT rfl rfl True.intro rfl (.cons _ _ _ _ (.refl _ trivial) (.cons _ _ _ _ (.refl _ trivial) .nil)) (.refl _ trivial) (by first | exact .inl rfl | exact .inr rfl) rfl) ?_ ?_
    · show SV.ro (EV.u8 (l.take n)) = SV.ro (EV.u8 (((l.drop 0).take (n - 0))))
      rw [List.drop_zero, Nat.sub_zero]
    · show [SV.ro (EV.u8 (l.drop n)), SV.bool bad] = [SV.ro (EV.u8 ((l.drop n).take (l.length - n))), SV.bool bad]
      rw [List.take_of_length_le (by simp)]
  · rw [if_neg h0, if_neg h0, if_neg h0]
    repeat' (first
      | ((with_reducible apply Sat.run (X := X64)); exact rfl; (first | exact True.intro | (exact phi) | skip))
      | ((with_reducible apply Sat.cond_pt); exact rfl; (try dsimp only [V.EV.sub, V.EV.len]); first | assumption | omega) | fail)
    refine Sat.mfin (Sat.mend1 hT rfl rfl True.intro rfl (.cons _ _ _ _ (.nils (.u8 []) rfl) (.cons _ _ _ _ (.refl _ trivial) .nil)) (.nils (.u8 []) rfl) (by first | exact .inl rfl | exact .inr rfl) rfl) ?_ ?_
    all_goals rfl
def numV (m : List UInt8) : Nat := m.foldl (fun a c => a * 256 + c.toNat) 0
theorem numV_snoc (m : List UInt8) (i : Nat) (h : i < m.length) : numV (m.take (i + 1)) = numV (m.take i) * 256 + (m.getD i 0).toNat := by
  unfold numV
  rw [List.take_add_one, List.foldl_append]
  simp [List.getD_eq_getElem?_getD, h]
theorem numV_lt : ∀ (m : List UInt8) (i : Nat), i ≤ m.length → numV (m.take i) < 256 ^ i
  | m, 0, _ => by simp [numV]
  | m, i + 1, h => by
    have h1 := numV_lt m i (by omega)
    have h2 := (m.getD i 0).toNat_lt
    rw [numV_snoc m i (by omega), Nat.pow_succ]
    have : numV (m.take i) + 1 ≤ 256 ^ i := h1
    have := Nat.mul_le_mul_right 256 this
    omega
theorem tkO_len (l : List UInt8) (n : Nat) : (tkO l n).length ≤ n := by
  unfold tkO
  split
  · simp; omega
  · simp
theorem or_step (v : Nat) (c : UInt8) (h : v < 4294967296) : IntKind.i64.wrap (((BitVec.ofInt IntKind.i64.bits ((v : Int) * 2 ^ (8 : Int).toNat) ||| BitVec.ofInt IntKind.i64.bits (c.toNat : Int)).toNat : Nat) : Int) = ((v * 256 + c.toNat : Nat) : Int) := by
  have hc := c.toNat_lt
  have e : ((v : Int) * 2 ^ (8 : Int).toNat) = ((v * 2 ^ 8 : Nat) : Int) := by
    rw [show (8 : Int).toNat = 8 from rfl]
    omega
  rw [e, bor_add .i64 v c.toNat 8 (by omega) (by simp only [IntKind.bits]; omega) (fun _ => by simp only [IntKind.bits]; omega)]
theorem number_spec (l : List UInt8) (bad : Bool) (n : Nat) (hn : n ≤ 4) : MFun Tryz.prog [] 134 [.int .i64 (n : Int)] 201 [.ro (.u8 l), .bool bad] [.ro (.u8 (tkR l n)), .bool (tkB l bad n)] (.int .i64 (numV (tkO l n) : Int)) := by
  have ht := take_spec l bad n
  have hl := tkO_len l n
  generalize tkO l n = m at ht hl ⊢
  refine MFun.mk 6 Tryz.func134 rfl Tryz.ntmps134 rfl rfl fun hf hg T w b hT hTb => ?_
  repeat' (first
    | ((with_reducible apply Sat.run (X := X64)); exact rfl; (first | exact True.intro | (exact phi) | skip))
    | ((with_reducible apply Sat.mcall (ht)); exact rfl; exact rfl; kernel_rfl; (exact cnv); exact rfl; exact pur; exact rfl; exact rfl) | fail)
  clear ht
  apply Sat.loop (α := Nat) (fun x => x ≤ m.length) (fun x => m.length - x) 0 (fun x => [(12, .int .i64 (x : Int)), (5, .int .i64 (numV (m.take x) : Int))]) (fun _ => []) [] [] 0
  · intro x; exact rfl
  · intro x; exact rfl
  · exact rfl
  · exact rfl
  · (repeat' (first | exact AllP.nil | with_reducible refine AllP.cons ?_ ?_)) <;> first | exact rfl | exact trivial
  · exact Nat.zero_le _
  · intro x hx
    have h1 := numV_lt m x hx
    have h2 : 256 ^ x ≤ 256 ^ 4 := Nat.pow_le_pow_right (by omega) (by omega)
    have h3 : numV (m.take x) < 4294967296 := by omega
    clear h1 h2
    generalize hv : numV (m.take x) = v at h3
    repeat' (first
      | ((with_reducible apply Sat.run (X := X64)); exact rfl; (first | exact True.intro | (exact phi) | skip))
      | ((with_reducible apply Sat.cond_p); exact rfl; all_goals intro h) | fail)
    · have hx2 : x < m.length := by simp only [EV.len] at h; omega
      refine Sat.back (x + 1) [] rfl ?_ hx2 (by omega)
      (repeat' (first | exact AllP.nil | with_reducible refine AllP.cons ?_ ?_)) <;> first | with_reducible exact rfl | exact Int.natCast_add_one _ | (rw [numV_snoc m x hx2, hv]; exact or_step v (m.getD x 0) h3) | exact rfl | exact trivial
    · have hx2 : x = m.length := by simp only [EV.len] at h; omega
      rw [hx2, List.take_length] at hv
      refine Sat.mfin (Sat.mend1 hT rfl rfl True.intro rfl (.cons _ _ _ _ (.refl _ trivial) (.cons _ _ _ _ (.refl _ trivial) .nil)) (.refl _ trivial) (by first | exact .inl rfl | exact .inr rfl) rfl) ?_ rfl
      rw [hv]
def hashO (l : List UInt8) : List UInt8 := if 32 ≤ l.length then l.take 32 else List.replicate 32 0
theorem sum_spec (l : List UInt8) (bad : Bool) : MFun Tryz.prog [] 136 [] 201 [.ro (.u8 l), .bool bad] [.ro (.u8 (tkR l 32)), .bool (tkB l bad 32)] (.arr 32 (.u8 (hashO l))) := by
  have ht := take_spec l bad 32
  have hl : (tkO l 32).length = 32 ∨ (tkO l 32).length = 0 := by
    unfold tkO
    split
    · left; simp; omega
    · right; rfl
  refine MFun.mk 6 Tryz.func136 rfl Tryz.ntmps136 rfl rfl fun hf hg T w b hT hTb => ?_
  repeat' (first
    | ((with_reducible apply Sat.run (X := X64)); exact rfl; (first | exact True.intro | (exact phi) | skip))
    | ((with_reducible apply Sat.drawn); kernel_rfl)
    | ((with_reducible apply DSat.run (X := X64)); exact rfl; (first | exact True.intro | (exact phi) | skip))
    | ((with_reducible apply DSat.fin); kernel_rfl)
    | ((with_reducible apply DSat.mcall (ht)); exact rfl; exact rfl; kernel_rfl; (exact cnv); exact rfl; exact pur; exact rfl; exact rfl)
    | ((with_reducible apply DSat.copy); exact rfl; exact rfl; exact rfl; exact rfl; exact rfl; exact rfl; exact rfl; exact hl; exact rfl) | fail)
  refine Sat.mfin (Sat.mend1 hT rfl rfl True.intro rfl (.cons _ _ _ _ (.refl _ trivial) (.cons _ _ _ _ (.refl _ trivial) .nil)) (.refl _ trivial) (by first | exact .inl rfl | exact .inr rfl) rfl) ?_ rfl
  show SV.arr 32 (EV.u8 (hashO l)) = SV.arr 32 (EV.u8 (if (tkO l 32).length = 32 then tkO l 32 else List.replicate 32 0))
  congr 2
  unfold hashO tkO
  by_cases h : 32 ≤ l.length
  · rw [if_pos h, if_pos h, if_pos (by simp; omega)]
  · rw [if_neg h, if_neg h, if_neg (by simp)]
theorem hashO_len (l : List UInt8) : (hashO l).length = 32 := by
  unfold hashO
  split
  · simp; omega
  · simp
theorem numV_le (l : List UInt8) (n : Nat) : numV (tkO l n) < 256 ^ n := by
  have h1 := numV_lt (tkO l n) _ (Nat.le_refl _)
  rw [List.take_length] at h1
  exact Nat.lt_of_lt_of_le h1 (Nat.pow_le_pow_right (by omega) (tkO_len l n))
theorem take1_rd (l : List UInt8) (bad : Bool) : MFun Tryz.prog [] 133 [.int .i64 1] 201 [.ro (.u8 l), .bool bad] [.ro (.u8 (tkR l 1)), .bool (tkB l bad 1)] (.ro (.u8 (tkO l 1))) := take_spec l bad 1
theorem num1_rd (l : List UInt8) (bad : Bool) : MFun Tryz.prog [] 134 [.int .i64 1] 201 [.ro (.u8 l), .bool bad] [.ro (.u8 (tkR l 1)), .bool (tkB l bad 1)] (.int .i64 (numV (tkO l 1) : Int)) := number_spec l bad 1 (by omega)
theorem num2_rd (l : List UInt8) (bad : Bool) : MFun Tryz.prog [] 134 [.int .i64 2] 201 [.ro (.u8 l), .bool bad] [.ro (.u8 (tkR l 2)), .bool (tkB l bad 2)] (.int .i64 (numV (tkO l 2) : Int)) := number_spec l bad 2 (by omega)
theorem num4_rd (l : List UInt8) (bad : Bool) : MFun Tryz.prog [] 134 [.int .i64 4] 201 [.ro (.u8 l), .bool bad] [.ro (.u8 (tkR l 4)), .bool (tkB l bad 4)] (.int .i64 (numV (tkO l 4) : Int)) := number_spec l bad 4 (by omega)
theorem bytesIn_ro {E : Env} {T : Nat → Prop} {w : World} {l : List UInt8} {v : Value} (h : Rep E T w (.ro (.u8 l)) v) : ∃ p c, v = .slice p l.length c ∧ Lib.BytesIn w p l.length (l.map fun b => (b.toNat : Int)) := by
  cases h with
  | ro0 _ h0 => simp only [EV.len] at h0; rw [h0]; exact ⟨_, _, rfl, Lib.BytesIn.nil _ _ _⟩
  | ro1 _ a h0 => simp only [EV.len] at h0; rw [h0]; exact ⟨_, _, rfl, Lib.BytesIn.nil _ _ _⟩
  | ro _ bb o n k c hT hn hc hr he hl ok hb =>
    simp only [EV.len, EV.sz, Nat.mul_one] at he hn hc hr
    subst he
    refine ⟨_, _, rfl, fun _ => ⟨bb, o, rfl, fun i hi => ?_⟩⟩
    have hI := hr i hi
    have hcj := hc i 0
    simp only [EV.items] at hI
    generalize c i = cj at hI hcj
    cases hI with
    | one _ cv _ _ p0 pr pI =>
      cases pr
      have := hcj _ hi rfl
      rw [Nat.add_zero] at this
      rw [this]
      simp [List.getD_eq_getElem?_getD, hi]
theorem bytesOf_map (l : List UInt8) : Lib.bytesOf (l.map fun b => (b.toNat : Int)) = l := by
  simp [Lib.bytesOf, Function.comp_def]
theorem equal_spec (x y : List UInt8) : Fun Tryz.prog [] 141 [.ro (.u8 x), .ro (.u8 y)] (.bool (decide (x = y))) := by
  intro T w vs hT hG ht
  cases ht with
  | cons _ v _ _ hr hl =>
  cases hl with
  | cons _ v2 _ _ hr2 hl2 =>
  cases hl2
  obtain ⟨p1, c1, rfl, h1⟩ := bytesIn_ro hr
  obtain ⟨p2, c2, rfl, h2⟩ := bytesIn_ro hr2
  refine (Tryz.bytes_Equal_all p1 p2 x.length c1 y.length c2 _ _ w (by simp) (by simp) h1 h2).mono ?_
  rintro e w' ⟨rfl, rfl⟩
  rw [bytesOf_map, bytesOf_map]
  refine ⟨_, rfl, ?_, Below.refl _ _⟩
  have : (x == y) = decide (x = y) := by
    by_cases h : x = y
    · subst h; simp
    · rw [decide_eq_false h]; simpa using h
  rw [this]
  exact .bool _
end Go.Proofs.YtokaegeediokoaaGreatDoor
end
section
namespace Go.Proofs.YtokaegeediokoaaGreatDoor
open Go.RowKit V
set_option maxRecDepth 100000
set_option maxHeartbeats 2000000
set_option linter.unusedSimpArgs false
attribute [local irreducible] V.Sat V.DSat tkO tkR tkB numV hashO
structure RdS where
  l : List UInt8
  bad : Bool
@[reducible] def RdS.tk (s : RdS) (n : Nat) : RdS := ⟨tkR s.l n, tkB s.l s.bad n⟩
@[reducible] def RdS.num (s : RdS) (n : Nat) : Nat := numV (tkO s.l n)
def listP {α : Type} (rd : RdS → α × RdS) : Nat → RdS → List α × RdS
  | 0, s => ([], s)
  | n + 1, s => if s.bad = true then ([], s) else ((rd s).1 :: (listP rd n (rd s).2).1, (listP rd n (rd s).2).2)
def rdInt2 (s : RdS) : Int × RdS := ((s.num 2 : Int), s.tk 2)
def rdPart (s : RdS) : PartL × RdS := (⟨tkO (s.tk 1).l (s.num 1), hashO ((s.tk 1).tk (s.num 1)).l⟩, ((s.tk 1).tk (s.num 1)).tk 32)
def goneP (s : RdS) : List Int × RdS := listP rdInt2 (s.num 1) (s.tk 1)
def partsP (s : RdS) : List PartL × RdS := listP rdPart (s.num 1) (s.tk 1)
theorem listP_stop {α : Type} (rd : RdS → α × RdS) (n : Nat) (s : RdS) (h : n = 0 ∨ s.bad = true) : listP rd n s = ([], s) := by
  cases n with
  | zero => rfl
  | succ n =>
    rcases h with h | h
    · cases h
    · simp [listP, h]
theorem listP_next {α : Type} (rd : RdS → α × RdS) (n : Nat) (s : RdS) (h0 : 0 < n) (h : s.bad = false) : listP rd n s = ((rd s).1 :: (listP rd (n - 1) (rd s).2).1, (listP rd (n - 1) (rd s).2).2) := by
  cases n with
  | zero => omega
  | succ n => simp [listP, h]
theorem parts_snoc (pa : List PartL) (p : PartL) (i : Nat) (hi : i < pa.length + 1) : (if i < pa.length then [SV.str (pa.getD i part0).name, SV.arr 32 (.u8 (pa.getD i part0).hash)] else nthL [[SV.str p.name, SV.arr 32 (.u8 p.hash)]] (0 + (i - pa.length))) = [SV.str ((pa ++ [p]).getD i part0).name, SV.arr 32 (.u8 ((pa ++ [p]).getD i part0).hash)] := by
  by_cases h : i < pa.length
  · rw [if_pos h]
    simp [List.getD_eq_getElem?_getD, List.getElem?_append_left h]
  · rw [if_neg h]
    have : i = pa.length := by omega
    subst this
    simp [nthL]
theorem parts_pure (pa : List PartL) (p : PartL) : pureE (.g (pa.length + 1) 33 fun i => if i < pa.length then [SV.str (pa.getD i part0).name, SV.arr 32 (.u8 (pa.getD i part0).hash)] else nthL [[SV.str p.name, SV.arr 32 (.u8 p.hash)]] (0 + (i - pa.length))) := fun i hi => by
  have h := parts_snoc pa p i hi
  show pureL (if i < pa.length then _ else _)
  rw [h]
  exact ⟨trivial, by simp [pureS, pureE], trivial⟩
def hd8 (b : List UInt8) : RdS := ⟨(tkR (tkR (tkR (tkR (tkR (tkR (tkR (tkR b 1) 2) 2) 4) 4) 32) 2) 32), (tkB (tkR (tkR (tkR (tkR (tkR (tkR (tkR b 1) 2) 2) 4) 4) 32) 2) (tkB (tkR (tkR (tkR (tkR (tkR (tkR b 1) 2) 2) 4) 4) 32) (tkB (tkR (tkR (tkR (tkR (tkR b 1) 2) 2) 4) 4) (tkB (tkR (tkR (tkR (tkR b 1) 2) 2) 4) (tkB (tkR (tkR (tkR b 1) 2) 2) (tkB (tkR (tkR b 1) 2) (tkB (tkR b 1) (tkB b false 1) 2) 2) 4) 4) 32) 2) 32)⟩
def parseP (b : List UInt8) : Rel := ⟨(numV (tkO (tkR b 1) 2) : Int), (numV (tkO (tkR (tkR b 1) 2) 2) : Int), (numV (tkO (tkR (tkR (tkR b 1) 2) 2) 4) : Int), (numV (tkO (tkR (tkR (tkR (tkR b 1) 2) 2) 4) 4) : Int), hashO (tkR (tkR (tkR (tkR (tkR b 1) 2) 2) 4) 4), (numV (tkO (tkR (tkR (tkR (tkR (tkR (tkR b 1) 2) 2) 4) 4) 32) 2) : Int), hashO (tkR (tkR (tkR (tkR (tkR (tkR (tkR b 1) 2) 2) 4) 4) 32) 2), (goneP (hd8 b)).1, (partsP (goneP (hd8 b)).2).1⟩
def zeroRel : Rel := ⟨0, 0, 0, 0, List.replicate 32 0, 0, List.replicate 32 0, [], []⟩
def okP (b : List UInt8) : Bool := !decide (b = []) && (validB (parseP b) && decide (bytesR (parseP b) = b))
theorem parse_walk (b : List UInt8) : Fun Tryz.prog [] 104 [.ro (.u8 b)] (.tup [(bif okP b then parseP b else zeroRel).v, .int .i64 (bif okP b then 0 else 260)]) := by
  refine Fun.mkF 7 Tryz.func104 rfl Tryz.ntmps104 rfl rfl fun hf T w0 => ?_
  repeat' (first
    | ((with_reducible apply Sat.run (X := X64)); exact rfl; (first | exact True.intro | (exact phi) | skip))
    | ((with_reducible apply Sat.drawn); kernel_rfl)
    | ((with_reducible apply DSat.run (X := X64)); exact rfl; (first | exact True.intro | (exact phi) | skip))
    | ((with_reducible apply DSat.fin); kernel_rfl)
    | ((with_reducible apply Sat.mcall (take1_rd _ _)); exact rfl; exact rfl; kernel_rfl; (exact cnvX); exact rfl; exact purX; exact rfl; exact rfl)
    | ((with_reducible apply Sat.mcall (num2_rd _ _)); exact rfl; exact rfl; kernel_rfl; (exact cnvX); exact rfl; exact purX; exact rfl; exact rfl)
    | ((with_reducible apply DSat.mcall (num2_rd _ _)); exact rfl; exact rfl; kernel_rfl; (exact cnvX); exact rfl; exact purX; exact rfl; exact rfl)
    | ((with_reducible apply DSat.mcall (num4_rd _ _)); exact rfl; exact rfl; kernel_rfl; (exact cnvX); exact rfl; exact purX; exact rfl; exact rfl)
    | ((with_reducible apply Sat.mcall (sum_spec _ _)); exact rfl; exact rfl; kernel_rfl; (exact cnvX); exact rfl; exact purX; exact rfl; exact rfl) | fail)
  generalize el : (tkR (tkR (tkR (tkR (tkR (tkR (tkR (tkR b 1) 2) 2) 4) 4) 32) 2) 32) = l8
  generalize eb : (tkB (tkR (tkR (tkR (tkR (tkR (tkR (tkR b 1) 2) 2) 4) 4) 32) 2) (tkB (tkR (tkR (tkR (tkR (tkR (tkR b 1) 2) 2) 4) 4) 32) (tkB (tkR (tkR (tkR (tkR (tkR b 1) 2) 2) 4) 4) (tkB (tkR (tkR (tkR (tkR b 1) 2) 2) 4) (tkB (tkR (tkR (tkR b 1) 2) 2) (tkB (tkR (tkR b 1) 2) (tkB (tkR b 1) (tkB b false 1) 2) 2) 4) 4) 32) 2) 32) = b8
  have hnv := numV_le (tkR b 1) 2
  generalize env : numV (tkO (tkR b 1) 2) = nv at hnv ⊢
  have hnf := numV_le (tkR (tkR b 1) 2) 2
  generalize enf : numV (tkO (tkR (tkR b 1) 2) 2) = nf at hnf ⊢
  have hne := numV_le (tkR (tkR (tkR b 1) 2) 2) 4
  generalize ene : numV (tkO (tkR (tkR (tkR b 1) 2) 2) 4) = ne at hne ⊢
  have hns := numV_le (tkR (tkR (tkR (tkR b 1) 2) 2) 4) 4
  generalize ens : numV (tkO (tkR (tkR (tkR (tkR b 1) 2) 2) 4) 4) = ns at hns ⊢
  have hnc := numV_le (tkR (tkR (tkR (tkR (tkR (tkR b 1) 2) 2) 4) 4) 32) 2
  generalize enc : numV (tkO (tkR (tkR (tkR (tkR (tkR (tkR b 1) 2) 2) 4) 4) 32) 2) = nc at hnc ⊢
  have him := hashO_len (tkR (tkR (tkR (tkR (tkR b 1) 2) 2) 4) 4)
  generalize eim : hashO (tkR (tkR (tkR (tkR (tkR b 1) 2) 2) 4) 4) = im at him ⊢
  have htr := hashO_len (tkR (tkR (tkR (tkR (tkR (tkR (tkR b 1) 2) 2) 4) 4) 32) 2)
  generalize etr : hashO (tkR (tkR (tkR (tkR (tkR (tkR (tkR b 1) 2) 2) 4) 4) 32) 2) = tr at htr ⊢
  have hN := numV_le l8 1
  repeat' (first
    | ((with_reducible apply Sat.run (X := X64)); exact rfl; (first | exact True.intro | (exact phi) | skip))
    | ((with_reducible apply Sat.inl 7 [] Tryz.func139 Tryz.ntmps139); exact rfl; exact rfl; kernel_rfl; exact rfl; exact rfl; exact rfl; exact rfl; ((repeat' (first | exact AllP.nil | with_reducible refine AllP.cons ?_ ?_)) <;> (first | exact True.intro | exact purX)); intro _ _)
    | ((with_reducible apply Sat.mcall (num1_rd _ _)); exact rfl; exact rfl; kernel_rfl; (exact cnvX); exact rfl; exact purX; exact rfl; exact rfl) | fail)
  generalize eg : listP rdInt2 (numV (tkO l8 1)) ⟨tkR l8 1, tkB l8 b8 1⟩ = gp
  generalize en : numV (tkO l8 1) = n0 at hN eg ⊢
  generalize eq1 : tkR l8 1 = l9 at eg ⊢
  generalize eq2 : tkB l8 b8 1 = b9 at eg ⊢
  apply Sat.loop (α := Nat × RdS × List Int) (fun x => x.1 + x.2.2.length < 256 ∧ gp = (x.2.2 ++ (listP rdInt2 x.1 x.2.1).1, (listP rdInt2 x.1 x.2.1).2)) (fun x => x.1) (n0, ⟨l9, b9⟩, []) (fun x => [(6, .int .i64 (x.1 : Int)), (5, .row 4 0 1 0 x.2.2.length)]) (fun x => [(1, .cells 201 [.ro (.u8 x.2.1.l), .bool x.2.1.bad]), (4, .row 3 (.ints .i64 x.2.2))]) [] [(4, none)] 1
  · intro x; exact rfl
  · intro x; exact rfl
  · exact rfl
  · exact rfl
  · (repeat' (first | exact AllP.nil | with_reducible refine AllP.cons ?_ ?_)) <;> first | with_reducible exact rfl | exact rfl | exact trivial | (intro _ _; simp [pureL, pureS, pureE]; done) | exact ⟨rfl, rfl, rfl, rfl⟩
  · refine ⟨?_, ?_⟩
    · dsimp only [List.length_nil]; omega
    · rw [← eg]; rfl
  · rintro ⟨n, s, acc⟩ ⟨x1, x2⟩
    obtain ⟨l, bad⟩ := s
    dsimp only at x1 x2 ⊢
    repeat' (first
      | ((with_reducible apply Sat.run (X := X64)); exact rfl; (first | exact True.intro | (exact phi) | skip))
      | ((with_reducible apply Sat.cond); exact rfl; all_goals (intro h; (try simp only [V.EV.sub, V.EV.len, Bool.cond_true_left, Bool.cond_false_right, Bool.or_eq_true, Bool.and_eq_true, Bool.or_eq_false_iff, Bool.and_eq_false_iff, Bool.not_eq_true', Bool.not_eq_false', decide_eq_true_eq, decide_eq_false_iff_not, ne_eq] at h)))
      | ((with_reducible apply Sat.inl 7 [] Tryz.func162 Tryz.ntmps162); exact rfl; exact rfl; kernel_rfl; exact rfl; exact rfl; exact rfl; exact rfl; ((repeat' (first | exact AllP.nil | with_reducible refine AllP.cons ?_ ?_)) <;> (first | exact True.intro | exact purX)); intro _ _)
      | ((with_reducible apply Sat.mcall (num2_rd _ _)); exact rfl; exact rfl; kernel_rfl; (exact cnvX); exact rfl; exact purX; exact rfl; exact rfl)
      | ((with_reducible apply Sat.out1 (C := ⟨_, _, _, _, _, _, _, _, _⟩)); exact rfl; (first | exact .inl rfl | exact .inr rfl); exact rfl; (exact phi); exact rfl) | fail)
    · obtain ⟨hn, hb⟩ : 0 < n ∧ bad = false := by revert h; cases bad <;> simp <;> omega
      refine Sat.back (n - 1, ⟨tkR l 2, tkB l bad 2⟩, acc ++ [(numV (tkO l 2) : Int)]) [(4, some 6)] rfl ?_ ?_ ?_
      · (repeat' (first | exact AllP.nil | with_reducible refine AllP.cons ?_ ?_)) <;> first | with_reducible exact rfl | (show (n : Int) - 1 = ((n - 1 : Nat) : Int); omega) | (show _ = (acc ++ [(numV (tkO l 2) : Int)]).length; simp [EV.len, EV.sub]; done) | exact rfl | exact trivial | (intro _ _; simp [pureL, pureS, pureE]; done) | (refine ⟨rfl, rfl, rfl, ?_⟩; show _ = (acc ++ [(numV (tkO l 2) : Int)]).length; simp [EV.len, EV.sub]; done) | exact ⟨rfl, rfl, rfl, rfl⟩
      · refine ⟨by simp only [List.length_append, List.length_cons, List.length_nil]; omega, ?_⟩
        dsimp only
        rw [x2, listP_next rdInt2 n ⟨l, bad⟩ hn hb]
        simp only [List.append_assoc, List.cons_append, List.nil_append]
        rfl
      · dsimp only; omega
    · have hs : n = 0 ∨ bad = true := by revert h; cases bad <;> simp
      rw [listP_stop rdInt2 n ⟨l, bad⟩ hs, List.append_nil] at x2
      clear h hs
      have hN2 := numV_le l 1
      repeat' (first
        | ((with_reducible apply Sat.run (X := X64)); exact rfl; (first | exact True.intro | (exact phi) | skip))
        | ((with_reducible apply Sat.inl 7 [] Tryz.func163 Tryz.ntmps163); exact rfl; exact rfl; kernel_rfl; exact rfl; exact rfl; exact rfl; exact rfl; ((repeat' (first | exact AllP.nil | with_reducible refine AllP.cons ?_ ?_)) <;> (first | exact True.intro | exact purX)); intro _ _)
        | ((with_reducible apply Sat.mcall (num1_rd _ _)); exact rfl; exact rfl; kernel_rfl; (exact cnvX); exact rfl; exact purX; exact rfl; exact rfl) | fail)
      generalize eg2 : listP rdPart (numV (tkO l 1)) ⟨tkR l 1, tkB l bad 1⟩ = pp
      generalize en2 : numV (tkO l 1) = n2 at hN2 eg2 ⊢
      generalize eq3 : tkR l 1 = l10 at eg2 ⊢
      generalize eq4 : tkB l bad 1 = b10 at eg2 ⊢
      apply Sat.loop (α := Nat × RdS × List PartL) (fun x => x.1 + x.2.2.length < 256 ∧ pp = (x.2.2 ++ (listP rdPart x.1 x.2.1).1, (listP rdPart x.1 x.2.1).2)) (fun x => x.1) (n2, ⟨l10, b10⟩, []) (fun x => [(6, .int .i64 (x.1 : Int)), (5, .row 5 0 33 0 x.2.2.length)]) (fun x => [(1, .cells 201 [.ro (.u8 x.2.1.l), .bool x.2.1.bad]), (5, .row 87 (partsE x.2.2))]) [] [(5, none)] 1
      · intro x; exact rfl
      · intro x; exact rfl
      · exact rfl
      · exact rfl
      · (repeat' (first | exact AllP.nil | with_reducible refine AllP.cons ?_ ?_)) <;> first | with_reducible exact rfl | exact rfl | exact trivial | (intro _ _; simp [pureL, pureS, pureE]; done) | exact ⟨rfl, rfl, rfl, rfl⟩
      · refine ⟨?_, ?_⟩
        · dsimp only [List.length_nil]; omega
        · rw [← eg2]; rfl
      · rintro ⟨m, s, pa⟩ ⟨y1, y2⟩
        obtain ⟨k, bd⟩ := s
        dsimp only at y1 y2 ⊢
        have ht := take_spec (tkR k 1) (tkB k bd 1) (numV (tkO k 1))
        repeat' (first
          | ((with_reducible apply Sat.run (X := X64)); exact rfl; (first | exact True.intro | (exact phi) | skip))
          | ((with_reducible apply Sat.drawn); kernel_rfl)
          | ((with_reducible apply DSat.run (X := X64)); exact rfl; (first | exact True.intro | (exact phi) | skip))
          | ((with_reducible apply DSat.fin); kernel_rfl)
          | ((with_reducible apply Sat.cond); exact rfl; all_goals (intro h; (try simp only [V.EV.sub, V.EV.len, Bool.cond_true_left, Bool.cond_false_right, Bool.or_eq_true, Bool.and_eq_true, Bool.or_eq_false_iff, Bool.and_eq_false_iff, Bool.not_eq_true', Bool.not_eq_false', decide_eq_true_eq, decide_eq_false_iff_not, ne_eq] at h)))
          | ((with_reducible apply Sat.inl 7 [] Tryz.func164 Tryz.ntmps164); exact rfl; exact rfl; kernel_rfl; exact rfl; exact rfl; exact rfl; exact rfl; ((repeat' (first | exact AllP.nil | with_reducible refine AllP.cons ?_ ?_)) <;> (first | exact True.intro | exact purX)); intro _ _)
          | ((with_reducible apply DSat.mcall (num1_rd _ _)); exact rfl; exact rfl; kernel_rfl; (exact cnvX); exact rfl; exact purX; exact rfl; exact rfl)
          | ((with_reducible apply DSat.mcall (ht)); exact rfl; exact rfl; kernel_rfl; (exact cnvX); exact rfl; exact purX; exact rfl; exact rfl)
          | ((with_reducible apply Sat.mcall (sum_spec _ _)); exact rfl; exact rfl; kernel_rfl; (exact cnvX); exact rfl; exact purX; exact rfl; exact rfl)
          | ((with_reducible apply Sat.out1 (C := ⟨_, _, _, _, _, _, _, _, _⟩)); exact rfl; (first | exact .inl rfl | exact .inr rfl); exact rfl; (exact phi); exact rfl) | fail)
        · obtain ⟨hn, hb⟩ : 0 < m ∧ bd = false := by revert h; cases bd <;> simp <;> omega
          refine Sat.back (m - 1, ⟨tkR (tkR (tkR k 1) (numV (tkO k 1))) 32, tkB (tkR (tkR k 1) (numV (tkO k 1))) (tkB (tkR k 1) (tkB k bd 1) (numV (tkO k 1))) 32⟩, pa ++ [(⟨tkO (tkR k 1) (numV (tkO k 1)), hashO (tkR (tkR k 1) (numV (tkO k 1)))⟩ : PartL)]) [(5, some 8)] rfl ?_ ?_ ?_
          · (repeat' (first | exact AllP.nil | with_reducible refine AllP.cons ?_ ?_)) <;> first | with_reducible exact rfl | (show (m : Int) - 1 = ((m - 1 : Nat) : Int); omega) | (show _ = (pa ++ [(⟨tkO (tkR k 1) (numV (tkO k 1)), hashO (tkR (tkR k 1) (numV (tkO k 1)))⟩ : PartL)]).length; simp [EV.len, EV.sub]; done) | (show pa.length + 1 = (pa ++ [(⟨tkO (tkR k 1) (numV (tkO k 1)), hashO (tkR (tkR k 1) (numV (tkO k 1)))⟩ : PartL)]).length; simp; done) | exact parts_snoc pa (⟨tkO (tkR k 1) (numV (tkO k 1)), hashO (tkR (tkR k 1) (numV (tkO k 1)))⟩ : PartL) | exact parts_pure pa (⟨tkO (tkR k 1) (numV (tkO k 1)), hashO (tkR (tkR k 1) (numV (tkO k 1)))⟩ : PartL) | (intro i hi; exact parts_snoc pa (⟨tkO (tkR k 1) (numV (tkO k 1)), hashO (tkR (tkR k 1) (numV (tkO k 1)))⟩ : PartL) i hi) | exact rfl | exact trivial | (refine ⟨rfl, rfl, rfl, ?_⟩; show _ = (pa ++ [(⟨tkO (tkR k 1) (numV (tkO k 1)), hashO (tkR (tkR k 1) (numV (tkO k 1)))⟩ : PartL)]).length; simp [EV.len, EV.sub]; done) | (intro i _; simp only []; split <;> simp [pureL, pureS, pureE, nthL]; done) | (intro _ _; simp [pureL, pureS, pureE]; done) | exact ⟨rfl, rfl, rfl, rfl⟩
          · refine ⟨by simp only [List.length_append, List.length_cons, List.length_nil]; omega, ?_⟩
            dsimp only
            rw [y2, listP_next rdPart m ⟨k, bd⟩ hn hb]
            simp only [List.append_assoc, List.cons_append, List.nil_append]
            rfl
          · dsimp only; omega
        · have hs : m = 0 ∨ bd = true := by revert h; cases bd <;> simp
          rw [listP_stop rdPart m ⟨k, bd⟩ hs, List.append_nil] at y2
          clear h hs
          have hq : okLen b.length := hf.1.1
          have hP : parseP b = ⟨nv, nf, ne, ns, im, nc, tr, acc, pa⟩ := by
            subst en2 eq3 eq4 eg2 en eq1 eq2 eg el eb env enf ene ens enc eim etr
            have x3 : goneP (hd8 b) = (acc, ⟨l, bad⟩) := x2
            have y3 : partsP ⟨l, bad⟩ = (pa, ⟨k, bd⟩) := y2
            unfold parseP
            rw [x3]
            dsimp only
            rw [y3]
          by_cases hb0 : b = []
          · have hgd : ¬ (decide (((EV.u8 b).len : Int) = 0) = false) := fun h => of_decide_eq_false h (by rw [hb0]; rfl)
            have hl0 : decide (((EV.u8 b).len : Int) = 0) = true := by rw [hb0]; rfl
            have hok : okP b = false := by unfold okP; rw [decide_eq_true hb0]; rfl
            repeat' (first
              | ((with_reducible apply Sat.run (X := X64)); exact rfl; (first | exact True.intro | (exact phi) | skip))
              | ((with_reducible apply Sat.cond); exact rfl; all_goals intro h)
              | ((with_reducible apply Sat.goffM (.bool true)); exact rfl; exact hgd; exact rfl) | fail)
            · (refine Sat.fin (Sat.end2 rfl rfl rfl rfl True.intro True.intro (.agg _ _ (.cons _ _ _ _ (.refl _ trivial) (.cons _ _ _ _ (.refl _ trivial) (.cons _ _ _ _ (.refl _ trivial) (.cons _ _ _ _ (.refl _ trivial) (.cons _ _ _ _ (.refl _ trivial) (.cons _ _ _ _ (.refl _ trivial) (.cons _ _ _ _ (.refl _ trivial) (.cons _ _ _ _ (.nils (.ints .i64 []) rfl) (.cons _ _ _ _ (.nils (partsE []) rfl) .nil)))))))))) (.refl _ trivial) (by first | exact .inl rfl | exact .inr rfl) (fun _ h => h)) ?_; rw [hok]; rfl)
            · exfalso
              rw [hl0] at h
              cases h
          · have hgd : decide (((EV.u8 b).len : Int) = 0) = false := decide_eq_false fun e => hb0 (List.eq_nil_of_length_eq_zero (by simp only [EV.len] at e; omega))
            repeat' (first
              | ((with_reducible apply Sat.gon); exact rfl; exact hgd) | fail)
            refine Sat.freezeR true 4 rfl ?_ ?_
            · (repeat' (first | exact AllP.nil | with_reducible refine AllP.cons ?_ ?_)) <;> first | exact rfl | exact trivial | exact .inl ⟨rfl, rfl, rfl⟩ | (intro _ _; simp [pureL, pureS, pureE]; done) | (intro _ _; exact rfl) | (intro _; exact rfl) | (intro _; exact trivial) | (intro _; exact .inl ⟨rfl, rfl, rfl⟩) | (intro _ _ _; simp [pureL, pureS, pureE]; done) | exact ⟨rfl, rfl, rfl, rfl⟩ | (intro _; exact ⟨rfl, rfl, rfl, rfl⟩)
            refine Sat.freezeR true 5 rfl ?_ ?_
            · (repeat' (first | exact AllP.nil | with_reducible refine AllP.cons ?_ ?_)) <;> first | exact rfl | exact trivial | exact .inl ⟨rfl, rfl, rfl⟩ | (intro _ _; simp [pureL, pureS, pureE]; done) | (intro _ _; exact rfl) | (intro _; exact rfl) | (intro _; exact trivial) | (intro _; exact .inl ⟨rfl, rfl, rfl⟩) | (intro _ _ _; simp [pureL, pureS, pureE]; done) | exact ⟨rfl, rfl, rfl, rfl⟩ | (intro _; exact ⟨rfl, rfl, rfl, rfl⟩)
            by_cases hv : validB ⟨nv, nf, ne, ns, im, nc, tr, acc, pa⟩ = true
            · have p1 := bytes_spec ⟨nv, nf, ne, ns, im, nc, tr, acc, pa⟩ hv
              have p2 := equal_spec (bytesR ⟨nv, nf, ne, ns, im, nc, tr, acc, pa⟩) b
              by_cases he : bytesR ⟨nv, nf, ne, ns, im, nc, tr, acc, pa⟩ = b
              · rw [decide_eq_true he] at p2
                have hok : okP b = true := by unfold okP; rw [hP, hv, decide_eq_true he, decide_eq_false hb0]; rfl
                repeat' (first
                  | ((with_reducible apply Sat.run (X := X64)); exact rfl; (first | exact True.intro | (exact phi) | skip))
                  | ((with_reducible apply Sat.cond); exact rfl; all_goals intro h)
                  | ((with_reducible apply Sat.gon); exact rfl; exact hgd)
                  | ((with_reducible apply Sat.call (p1)); exact rfl; exact rfl; kernel_rfl; (exact cnvX); exact rfl)
                  | ((with_reducible apply Sat.callR (p2)); exact rfl; exact rfl; exact rfl; kernel_rfl; (exact cnvX); exact rfl) | fail)
                · exfalso; rw [hgd] at h; cases h
                · (refine Sat.fin (Sat.end2 rfl rfl rfl rfl True.intro True.intro (.refl _ (by (repeat' (first | exact True.intro | (intro _ _; simp [pureL, pureS, pureE]; done) | apply And.intro)))) (.refl _ trivial) (by first | exact .inl rfl | exact .inr rfl) (fun _ h => h)) ?_; rw [hok, hP]; rfl)
              · rw [decide_eq_false he] at p2
                have hok : okP b = false := by unfold okP; rw [hP, decide_eq_false he]; simp
                repeat' (first
                  | ((with_reducible apply Sat.run (X := X64)); exact rfl; (first | exact True.intro | (exact phi) | skip))
                  | ((with_reducible apply Sat.cond); exact rfl; all_goals intro h)
                  | ((with_reducible apply Sat.gon); exact rfl; exact hgd)
                  | ((with_reducible apply Sat.call (p1)); exact rfl; exact rfl; kernel_rfl; (exact cnvX); exact rfl)
                  | ((with_reducible apply Sat.callR (p2)); exact rfl; exact rfl; exact rfl; kernel_rfl; (exact cnvX); exact rfl) | fail)
                · (refine Sat.fin (Sat.end2 rfl rfl rfl rfl True.intro True.intro (.agg _ _ (.cons _ _ _ _ (.refl _ trivial) (.cons _ _ _ _ (.refl _ trivial) (.cons _ _ _ _ (.refl _ trivial) (.cons _ _ _ _ (.refl _ trivial) (.cons _ _ _ _ (.refl _ trivial) (.cons _ _ _ _ (.refl _ trivial) (.cons _ _ _ _ (.refl _ trivial) (.cons _ _ _ _ (.nils (.ints .i64 []) rfl) (.cons _ _ _ _ (.nils (partsE []) rfl) .nil)))))))))) (.refl _ trivial) (by first | exact .inl rfl | exact .inr rfl) (fun _ h => h)) ?_; rw [hok]; rfl)
                · exfalso; rw [hgd] at h; cases h
            · have hv' : validB ⟨nv, nf, ne, ns, im, nc, tr, acc, pa⟩ = false := by simpa using hv
              have p1 := bytes_f ⟨nv, nf, ne, ns, im, nc, tr, acc, pa⟩ hv'
              have p2 := equal_spec [] b
              rw [decide_eq_false (fun e : [] = b => hb0 e.symm)] at p2
              have hok : okP b = false := by unfold okP; rw [hP, hv']; simp
              repeat' (first
                | ((with_reducible apply Sat.run (X := X64)); exact rfl; (first | exact True.intro | (exact phi) | skip))
                | ((with_reducible apply Sat.cond); exact rfl; all_goals intro h)
                | ((with_reducible apply Sat.gon); exact rfl; exact hgd)
                | ((with_reducible apply Sat.call (p1)); exact rfl; exact rfl; kernel_rfl; (exact cnvX); exact rfl)
                | ((with_reducible apply Sat.callR (p2)); exact rfl; exact rfl; exact rfl; kernel_rfl; (exact cnvX); exact rfl) | fail)
              · (refine Sat.fin (Sat.end2 rfl rfl rfl rfl True.intro True.intro (.agg _ _ (.cons _ _ _ _ (.refl _ trivial) (.cons _ _ _ _ (.refl _ trivial) (.cons _ _ _ _ (.refl _ trivial) (.cons _ _ _ _ (.refl _ trivial) (.cons _ _ _ _ (.refl _ trivial) (.cons _ _ _ _ (.refl _ trivial) (.cons _ _ _ _ (.refl _ trivial) (.cons _ _ _ _ (.nils (.ints .i64 []) rfl) (.cons _ _ _ _ (.nils (partsE []) rfl) .nil)))))))))) (.refl _ trivial) (by first | exact .inl rfl | exact .inr rfl) (fun _ h => h)) ?_; rw [hok]; rfl)
              · exfalso; rw [hgd] at h; cases h
end Go.Proofs.YtokaegeediokoaaGreatDoor
end
section
namespace Go.Proofs.YtokaegeediokoaaGreatDoor
open Go.RowKit V
set_option maxRecDepth 100000
set_option maxHeartbeats 4000000
set_option linter.unusedSimpArgs false
attribute [local irreducible] V.Sat V.DSat tkO tkR tkB numV hashO
def rdSum (s : RdS) : List UInt8 × RdS := (hashO s.l, s.tk 32)
def rdInt1 (s : RdS) : Int × RdS := ((s.num 1 : Int), s.tk 1)
def keysP (s : RdS) : List Int × RdS := listP rdInt1 (s.num 1) (s.tk 1)
def rdRole (s : RdS) : RoleL × RdS := (⟨tkO (s.tk 1).l (s.num 1), (keysP ((s.tk 1).tk (s.num 1))).1, ((keysP ((s.tk 1).tk (s.num 1))).2.num 1 : Int)⟩, (keysP ((s.tk 1).tk (s.num 1))).2.tk 1)
def sumsP (s : RdS) : List (List UInt8) × RdS := listP rdSum (s.num 1) (s.tk 1)
def rolesP (s : RdS) : List RoleL × RdS := listP rdRole (s.num 1) (s.tk 1)
theorem sums_snoc (ks : List (List UInt8)) (p : List UInt8) (i : Nat) (hi : i < ks.length + 1) : (if i < ks.length then [SV.arr 32 (.u8 (ks.getD i []))] else nthL [[SV.arr 32 (.u8 p)]] (0 + (i - ks.length))) = [SV.arr 32 (.u8 ((ks ++ [p]).getD i []))] := by
  by_cases h : i < ks.length
  · rw [if_pos h]
    simp [List.getD_eq_getElem?_getD, List.getElem?_append_left h]
  · rw [if_neg h]
    have : i = ks.length := by omega
    subst this
    simp [nthL]
theorem sums_pure (ks : List (List UInt8)) (p : List UInt8) : pureE (.g (ks.length + 1) 32 fun i => if i < ks.length then [SV.arr 32 (.u8 (ks.getD i []))] else nthL [[SV.arr 32 (.u8 p)]] (0 + (i - ks.length))) := fun i hi => by
  have h := sums_snoc ks p i hi
  show pureL (if i < ks.length then _ else _)
  rw [h]
  exact ⟨by simp [pureS, pureE], trivial⟩
theorem roles_snoc (rs : List RoleL) (p : RoleL) (i : Nat) (hi : i < rs.length + 1) : (if i < rs.length then [SV.str (rs.getD i role0).name, SV.ro (.ints .i64 (rs.getD i role0).keys), SV.int .i64 (rs.getD i role0).need] else nthL [[SV.str p.name, SV.ro (.ints .i64 p.keys), SV.int .i64 p.need]] (0 + (i - rs.length))) = [SV.str ((rs ++ [p]).getD i role0).name, SV.ro (.ints .i64 ((rs ++ [p]).getD i role0).keys), SV.int .i64 ((rs ++ [p]).getD i role0).need] := by
  by_cases h : i < rs.length
  · rw [if_pos h]
    simp [List.getD_eq_getElem?_getD, List.getElem?_append_left h]
  · rw [if_neg h]
    have : i = rs.length := by omega
    subst this
    simp [nthL]
theorem roles_pure (rs : List RoleL) (p : RoleL) : pureE (.g (rs.length + 1) 3 fun i => if i < rs.length then [SV.str (rs.getD i role0).name, SV.ro (.ints .i64 (rs.getD i role0).keys), SV.int .i64 (rs.getD i role0).need] else nthL [[SV.str p.name, SV.ro (.ints .i64 p.keys), SV.int .i64 p.need]] (0 + (i - rs.length))) := fun i hi => by
  have h := roles_snoc rs p i hi
  show pureL (if i < rs.length then _ else _)
  rw [h]
  exact ⟨trivial, by simp [pureS, pureE], trivial, trivial⟩
def hd3 (b : List UInt8) : RdS := ⟨(tkR (tkR (tkR b 1) 4) 4), (tkB (tkR (tkR b 1) 4) (tkB (tkR b 1) (tkB b false 1) 4) 4)⟩
def parseQ (b : List UInt8) : RootL := ⟨(numV (tkO (tkR b 1) 4) : Int), (numV (tkO (tkR (tkR b 1) 4) 4) : Int), (sumsP (hd3 b)).1, (rolesP (sumsP (hd3 b)).2).1⟩
def zeroRoot : RootL := ⟨0, 0, [], []⟩
def okQ (b : List UInt8) : Bool := !decide (b = []) && (rootB (parseQ b) && decide (bytesQ (parseQ b) = b))
theorem parseRoot_walk (b : List UInt8) : Fun Tryz.prog [] 68 [.ro (.u8 b)] (.tup [(bif okQ b then parseQ b else zeroRoot).v, .int .i64 (bif okQ b then 0 else 260)]) := by
  refine Fun.mkF 7 Tryz.func68 rfl Tryz.ntmps68 rfl rfl fun hf T w0 => ?_
  repeat' (first
    | ((with_reducible apply Sat.run (X := X64)); exact rfl; (first | exact True.intro | (exact phi) | skip))
    | ((with_reducible apply Sat.drawn); kernel_rfl)
    | ((with_reducible apply DSat.run (X := X64)); exact rfl; (first | exact True.intro | (exact phi) | skip))
    | ((with_reducible apply DSat.fin); kernel_rfl)
    | ((with_reducible apply Sat.mcall (take1_rd _ _)); exact rfl; exact rfl; kernel_rfl; (exact cnvX); exact rfl; exact purX; exact rfl; exact rfl)
    | ((with_reducible apply DSat.mcall (num4_rd _ _)); exact rfl; exact rfl; kernel_rfl; (exact cnvX); exact rfl; exact purX; exact rfl; exact rfl) | fail)
  generalize el : (tkR (tkR (tkR b 1) 4) 4) = l8
  generalize eb : (tkB (tkR (tkR b 1) 4) (tkB (tkR b 1) (tkB b false 1) 4) 4) = b8
  have hng := numV_le (tkR b 1) 4
  generalize eng : numV (tkO (tkR b 1) 4) = ng at hng ⊢
  have hne := numV_le (tkR (tkR b 1) 4) 4
  generalize ene : numV (tkO (tkR (tkR b 1) 4) 4) = ne at hne ⊢
  have hN := numV_le l8 1
  repeat' (first
    | ((with_reducible apply Sat.run (X := X64)); exact rfl; (first | exact True.intro | (exact phi) | skip))
    | ((with_reducible apply Sat.inl 7 [] Tryz.func135 Tryz.ntmps135); exact rfl; exact rfl; kernel_rfl; exact rfl; exact rfl; exact rfl; exact rfl; ((repeat' (first | exact AllP.nil | with_reducible refine AllP.cons ?_ ?_)) <;> (first | exact True.intro | exact purX)); intro _ _)
    | ((with_reducible apply Sat.mcall (num1_rd _ _)); exact rfl; exact rfl; kernel_rfl; (exact cnvX); exact rfl; exact purX; exact rfl; exact rfl) | fail)
  generalize eg : listP rdSum (numV (tkO l8 1)) ⟨tkR l8 1, tkB l8 b8 1⟩ = gp
  generalize en : numV (tkO l8 1) = n0 at hN eg ⊢
  generalize eq1 : tkR l8 1 = l9 at eg ⊢
  generalize eq2 : tkB l8 b8 1 = b9 at eg ⊢
  apply Sat.loop (α := Nat × RdS × List (List UInt8)) (fun x => x.1 + x.2.2.length < 256 ∧ gp = (x.2.2 ++ (listP rdSum x.1 x.2.1).1, (listP rdSum x.1 x.2.1).2)) (fun x => x.1) (n0, ⟨l9, b9⟩, []) (fun x => [(6, .int .i64 (x.1 : Int)), (5, .row 4 0 32 0 x.2.2.length)]) (fun x => [(1, .cells 201 [.ro (.u8 x.2.1.l), .bool x.2.1.bad]), (4, .row 40 (keysE x.2.2))]) [] [(4, none)] 1
  · intro x; exact rfl
  · intro x; exact rfl
  · exact rfl
  · exact rfl
  · (repeat' (first | exact AllP.nil | with_reducible refine AllP.cons ?_ ?_)) <;> first | with_reducible exact rfl | exact rfl | exact trivial | (intro _ _; simp [pureL, pureS, pureE]; done) | exact ⟨rfl, rfl, rfl, rfl⟩
  · refine ⟨?_, ?_⟩
    · dsimp only [List.length_nil]; omega
    · rw [← eg]; rfl
  · rintro ⟨n, s, acc⟩ ⟨x1, x2⟩
    obtain ⟨l, bad⟩ := s
    dsimp only at x1 x2 ⊢
    repeat' (first
      | ((with_reducible apply Sat.run (X := X64)); exact rfl; (first | exact True.intro | (exact phi) | skip))
      | ((with_reducible apply Sat.cond); exact rfl; all_goals (intro h; (try simp only [V.EV.sub, V.EV.len, Bool.cond_true_left, Bool.cond_false_right, Bool.or_eq_true, Bool.and_eq_true, Bool.or_eq_false_iff, Bool.and_eq_false_iff, Bool.not_eq_true', Bool.not_eq_false', decide_eq_true_eq, decide_eq_false_iff_not, ne_eq] at h)))
      | ((with_reducible apply Sat.mcall (sum_spec _ _)); exact rfl; exact rfl; kernel_rfl; (exact cnvX); exact rfl; exact purX; exact rfl; exact rfl)
      | ((with_reducible apply Sat.out1 (C := ⟨_, _, _, _, _, _, _, _, _⟩)); exact rfl; (first | exact .inl rfl | exact .inr rfl); exact rfl; (exact phi); exact rfl) | fail)
    · obtain ⟨hn, hb⟩ : 0 < n ∧ bad = false := by revert h; cases bad <;> simp <;> omega
      refine Sat.back (n - 1, ⟨tkR l 32, tkB l bad 32⟩, acc ++ [hashO l]) [(4, some 6)] rfl ?_ ?_ ?_
      · (repeat' (first | exact AllP.nil | with_reducible refine AllP.cons ?_ ?_)) <;> first | with_reducible exact rfl | (show (n : Int) - 1 = ((n - 1 : Nat) : Int); omega) | (show acc.length + 1 = (acc ++ [hashO l]).length; simp; done) | exact sums_pure acc (hashO l) | (intro i hi; exact sums_snoc acc (hashO l) i hi) | (show _ = (acc ++ [hashO l]).length; simp [EV.len, EV.sub]; done) | (refine ⟨rfl, rfl, rfl, ?_⟩; show _ = (acc ++ [hashO l]).length; simp [EV.len, EV.sub]; done) | exact rfl | exact trivial | (intro _ _; simp [pureL, pureS, pureE]; done) | exact ⟨rfl, rfl, rfl, rfl⟩
      · refine ⟨by simp only [List.length_append, List.length_cons, List.length_nil]; omega, ?_⟩
        dsimp only
        rw [x2, listP_next rdSum n ⟨l, bad⟩ hn hb]
        simp only [List.append_assoc, List.cons_append, List.nil_append]
        rfl
      · dsimp only; omega
    · have hs : n = 0 ∨ bad = true := by revert h; cases bad <;> simp
      rw [listP_stop rdSum n ⟨l, bad⟩ hs, List.append_nil] at x2
      clear h hs
      have hN2 := numV_le l 1
      repeat' (first
        | ((with_reducible apply Sat.run (X := X64)); exact rfl; (first | exact True.intro | (exact phi) | skip))
        | ((with_reducible apply Sat.inl 7 [] Tryz.func137 Tryz.ntmps137); exact rfl; exact rfl; kernel_rfl; exact rfl; exact rfl; exact rfl; exact rfl; ((repeat' (first | exact AllP.nil | with_reducible refine AllP.cons ?_ ?_)) <;> (first | exact True.intro | exact purX)); intro _ _)
        | ((with_reducible apply Sat.mcall (num1_rd _ _)); exact rfl; exact rfl; kernel_rfl; (exact cnvX); exact rfl; exact purX; exact rfl; exact rfl) | fail)
      generalize eg2 : listP rdRole (numV (tkO l 1)) ⟨tkR l 1, tkB l bad 1⟩ = pp
      generalize en2 : numV (tkO l 1) = n2 at hN2 eg2 ⊢
      generalize eq3 : tkR l 1 = l10 at eg2 ⊢
      generalize eq4 : tkB l bad 1 = b10 at eg2 ⊢
      apply Sat.loop (α := Nat × RdS × List RoleL) (fun x => x.1 + x.2.2.length < 256 ∧ pp = (x.2.2 ++ (listP rdRole x.1 x.2.1).1, (listP rdRole x.1 x.2.1).2)) (fun x => x.1) (n2, ⟨l10, b10⟩, []) (fun x => [(6, .int .i64 (x.1 : Int)), (5, .row 5 0 3 0 x.2.2.length)]) (fun x => [(1, .cells 201 [.ro (.u8 x.2.1.l), .bool x.2.1.bad]), (5, .row 56 (rolesE x.2.2))]) [] [(5, none)] 1
      · intro x; exact rfl
      · intro x; exact rfl
      · exact rfl
      · exact rfl
      · (repeat' (first | exact AllP.nil | with_reducible refine AllP.cons ?_ ?_)) <;> first | with_reducible exact rfl | exact rfl | exact trivial | (intro _ _; simp [pureL, pureS, pureE]; done) | exact ⟨rfl, rfl, rfl, rfl⟩
      · refine ⟨?_, ?_⟩
        · dsimp only [List.length_nil]; omega
        · rw [← eg2]; rfl
      · rintro ⟨m, s, pa⟩ ⟨y1, y2⟩
        obtain ⟨k, bd⟩ := s
        dsimp only at y1 y2 ⊢
        have ht := take_spec (tkR k 1) (tkB k bd 1) (numV (tkO k 1))
        have hN3 := numV_le (tkR (tkR k 1) (numV (tkO k 1))) 1
        repeat' (first
          | ((with_reducible apply Sat.run (X := X64)); exact rfl; (first | exact True.intro | (exact phi) | skip))
          | ((with_reducible apply Sat.drawn); kernel_rfl)
          | ((with_reducible apply DSat.run (X := X64)); exact rfl; (first | exact True.intro | (exact phi) | skip))
          | ((with_reducible apply DSat.fin); kernel_rfl)
          | ((with_reducible apply Sat.cond); exact rfl; all_goals (intro h; (try simp only [V.EV.sub, V.EV.len, Bool.cond_true_left, Bool.cond_false_right, Bool.or_eq_true, Bool.and_eq_true, Bool.or_eq_false_iff, Bool.and_eq_false_iff, Bool.not_eq_true', Bool.not_eq_false', decide_eq_true_eq, decide_eq_false_iff_not, ne_eq] at h)))
          | ((with_reducible apply Sat.inl 7 [] Tryz.func138 Tryz.ntmps138); exact rfl; exact rfl; kernel_rfl; exact rfl; exact rfl; exact rfl; exact rfl; ((repeat' (first | exact AllP.nil | with_reducible refine AllP.cons ?_ ?_)) <;> (first | exact True.intro | exact purX)); intro _ _)
          | ((with_reducible apply DSat.mcall (num1_rd k bd)); exact rfl; exact rfl; kernel_rfl; (exact cnvX); exact rfl; exact purX; exact rfl; exact rfl)
          | ((with_reducible apply DSat.mcall (ht)); exact rfl; exact rfl; kernel_rfl; (exact cnvX); exact rfl; exact purX; exact rfl; exact rfl) | fail)
        · obtain ⟨hm1, hm2⟩ : 0 < m ∧ bd = false := by revert h; cases bd <;> simp <;> omega
          clear h
          repeat' (first
            | ((with_reducible apply Sat.run (X := X64)); exact rfl; (first | exact True.intro | (exact phi) | skip))
            | ((with_reducible apply Sat.inl 7 [] Tryz.func139 Tryz.ntmps139); exact rfl; exact rfl; kernel_rfl; exact rfl; exact rfl; exact rfl; exact rfl; ((repeat' (first | exact AllP.nil | with_reducible refine AllP.cons ?_ ?_)) <;> (first | exact True.intro | exact purX)); intro _ _)
            | ((with_reducible apply Sat.mcall (num1_rd _ _)); exact rfl; exact rfl; kernel_rfl; (exact cnvX); exact rfl; exact purX; exact rfl; exact rfl) | fail)
          generalize eg3 : listP rdInt1 (numV (tkO (tkR (tkR k 1) (numV (tkO k 1))) 1)) ⟨tkR (tkR (tkR k 1) (numV (tkO k 1))) 1, tkB (tkR (tkR k 1) (numV (tkO k 1))) (tkB (tkR k 1) (tkB k bd 1) (numV (tkO k 1))) 1⟩ = kp
          generalize en3 : numV (tkO (tkR (tkR k 1) (numV (tkO k 1))) 1) = n3 at hN3 eg3 ⊢
          generalize eq5 : tkR (tkR (tkR k 1) (numV (tkO k 1))) 1 = l11 at eg3 ⊢
          generalize eq6 : tkB (tkR (tkR k 1) (numV (tkO k 1))) (tkB (tkR k 1) (tkB k bd 1) (numV (tkO k 1))) 1 = b11 at eg3 ⊢
          apply Sat.loop (α := Nat × RdS × List Int) (fun x => x.1 + x.2.2.length < 256 ∧ kp = (x.2.2 ++ (listP rdInt1 x.1 x.2.1).1, (listP rdInt1 x.1 x.2.1).2)) (fun x => x.1) (n3, ⟨l11, b11⟩, []) (fun x => [(6, .int .i64 (x.1 : Int)), (5, .row 7 0 1 0 x.2.2.length)]) (fun x => [(1, .cells 201 [.ro (.u8 x.2.1.l), .bool x.2.1.bad]), (7, .row 3 (.ints .i64 x.2.2))]) [] [(7, none)] 1
          · intro x; exact rfl
          · intro x; exact rfl
          · exact rfl
          · exact rfl
          · (repeat' (first | exact AllP.nil | with_reducible refine AllP.cons ?_ ?_)) <;> first | with_reducible exact rfl | exact rfl | exact trivial | (intro _ _; simp [pureL, pureS, pureE]; done) | exact ⟨rfl, rfl, rfl, rfl⟩
          · refine ⟨?_, ?_⟩
            · dsimp only [List.length_nil]; omega
            · rw [← eg3]; rfl
          · rintro ⟨j, s, kk⟩ ⟨z1, z2⟩
            obtain ⟨l3, b3⟩ := s
            dsimp only at z1 z2 ⊢
            repeat' (first
              | ((with_reducible apply Sat.run (X := X64)); exact rfl; (first | exact True.intro | (exact phi) | skip))
              | ((with_reducible apply Sat.cond); exact rfl; all_goals (intro h; (try simp only [V.EV.sub, V.EV.len, Bool.cond_true_left, Bool.cond_false_right, Bool.or_eq_true, Bool.and_eq_true, Bool.or_eq_false_iff, Bool.and_eq_false_iff, Bool.not_eq_true', Bool.not_eq_false', decide_eq_true_eq, decide_eq_false_iff_not, ne_eq] at h)))
              | ((with_reducible apply Sat.inl 7 [] Tryz.func140 Tryz.ntmps140); exact rfl; exact rfl; kernel_rfl; exact rfl; exact rfl; exact rfl; exact rfl; ((repeat' (first | exact AllP.nil | with_reducible refine AllP.cons ?_ ?_)) <;> (first | exact True.intro | exact purX)); intro _ _) | fail)
            · obtain ⟨hn, hb⟩ : 0 < j ∧ b3 = false := by revert h; cases b3 <;> simp <;> omega
              repeat' (first
                | ((with_reducible apply Sat.run (X := X64)); exact rfl; (first | exact True.intro | (exact phi) | skip))
                | ((with_reducible apply Sat.mcall (num1_rd _ _)); exact rfl; exact rfl; kernel_rfl; (exact cnvX); exact rfl; exact purX; exact rfl; exact rfl)
                | ((with_reducible apply Sat.out1 (C := ⟨_, _, _, _, _, _, _, _, _⟩)); exact rfl; (first | exact .inl rfl | exact .inr rfl); exact rfl; (exact phi); exact rfl) | fail)
              refine Sat.back (j - 1, ⟨tkR l3 1, tkB l3 b3 1⟩, kk ++ [(numV (tkO l3 1) : Int)]) [(7, some 9)] rfl ?_ ?_ ?_
              · (repeat' (first | exact AllP.nil | with_reducible refine AllP.cons ?_ ?_)) <;> first | with_reducible exact rfl | (show (j : Int) - 1 = ((j - 1 : Nat) : Int); omega) | (show _ = (kk ++ [(numV (tkO l3 1) : Int)]).length; simp [EV.len, EV.sub]; done) | (refine ⟨rfl, rfl, rfl, ?_⟩; show _ = (kk ++ [(numV (tkO l3 1) : Int)]).length; simp [EV.len, EV.sub]; done) | exact rfl | exact trivial | (intro _ _; simp [pureL, pureS, pureE]; done) | exact ⟨rfl, rfl, rfl, rfl⟩
              · refine ⟨by simp only [List.length_append, List.length_cons, List.length_nil]; omega, ?_⟩
                dsimp only
                rw [z2, listP_next rdInt1 j ⟨l3, b3⟩ hn hb]
                simp only [List.append_assoc, List.cons_append, List.nil_append]
                rfl
              · dsimp only; omega
            · have hs : j = 0 ∨ b3 = true := by revert h; cases b3 <;> simp
              rw [listP_stop rdInt1 j ⟨l3, b3⟩ hs, List.append_nil] at z2
              clear h hs
              repeat' (first
                | ((with_reducible apply Sat.run (X := X64)); exact rfl; (first | exact True.intro | (exact phi) | skip))
                | ((with_reducible apply Sat.out1 (C := ⟨_, _, _, _, _, _, _, _, _⟩)); exact rfl; (first | exact .inl rfl | exact .inr rfl); exact rfl; (exact phi); exact rfl) | fail)
              refine Sat.freezeR true 7 rfl ?_ ?_
              · (repeat' (first | exact AllP.nil | with_reducible refine AllP.cons ?_ ?_)) <;> first | exact rfl | exact trivial | exact .inl ⟨rfl, rfl, rfl⟩ | (intro _ _; simp [pureL, pureS, pureE]; done) | (intro _ _; exact rfl) | (intro _; exact rfl) | (intro _; exact trivial) | (intro _; exact .inl ⟨rfl, rfl, rfl⟩) | (intro _ _ _; simp [pureL, pureS, pureE]; done) | exact ⟨rfl, rfl, rfl, rfl⟩ | (intro _; exact ⟨rfl, rfl, rfl, rfl⟩)
              repeat' (first
                | ((with_reducible apply Sat.run (X := X64)); exact rfl; (first | exact True.intro | (exact phi) | skip))
                | ((with_reducible apply Sat.mcall (num1_rd _ _)); exact rfl; exact rfl; kernel_rfl; (exact cnvX); exact rfl; exact purX; exact rfl; exact rfl)
                | ((with_reducible apply Sat.out1 (C := ⟨_, _, _, _, _, _, _, _, _⟩)); exact rfl; (first | exact .inl rfl | exact .inr rfl); exact rfl; (exact phi); exact rfl) | fail)
              refine Sat.back (m - 1, ⟨tkR l3 1, tkB l3 b3 1⟩, pa ++ [(⟨tkO (tkR k 1) (numV (tkO k 1)), kk, (numV (tkO l3 1) : Int)⟩ : RoleL)]) [(5, some 9)] rfl ?_ ?_ ?_
              · (repeat' (first | exact AllP.nil | with_reducible refine AllP.cons ?_ ?_)) <;> first | with_reducible exact rfl | (show (m : Int) - 1 = ((m - 1 : Nat) : Int); omega) | (show pa.length + 1 = (pa ++ [(⟨tkO (tkR k 1) (numV (tkO k 1)), kk, (numV (tkO l3 1) : Int)⟩ : RoleL)]).length; simp; done) | exact roles_pure pa (⟨tkO (tkR k 1) (numV (tkO k 1)), kk, (numV (tkO l3 1) : Int)⟩ : RoleL) | (intro i hi; exact roles_snoc pa (⟨tkO (tkR k 1) (numV (tkO k 1)), kk, (numV (tkO l3 1) : Int)⟩ : RoleL) i hi) | (show _ = (pa ++ [(⟨tkO (tkR k 1) (numV (tkO k 1)), kk, (numV (tkO l3 1) : Int)⟩ : RoleL)]).length; simp [EV.len, EV.sub]; done) | (refine ⟨rfl, rfl, rfl, ?_⟩; show _ = (pa ++ [(⟨tkO (tkR k 1) (numV (tkO k 1)), kk, (numV (tkO l3 1) : Int)⟩ : RoleL)]).length; simp [EV.len, EV.sub]; done) | exact rfl | exact trivial | (intro _ _; simp [pureL, pureS, pureE]; done) | exact ⟨rfl, rfl, rfl, rfl⟩
              · refine ⟨by simp only [List.length_append, List.length_cons, List.length_nil]; omega, ?_⟩
                dsimp only
                have z3 : rdRole ⟨k, bd⟩ = ((⟨tkO (tkR k 1) (numV (tkO k 1)), kk, (numV (tkO l3 1) : Int)⟩ : RoleL), ⟨tkR l3 1, tkB l3 b3 1⟩) := by
                  subst en3 eq5 eq6 eg3
                  have z4 : keysP ⟨(tkR (tkR k 1) (numV (tkO k 1))), (tkB (tkR k 1) (tkB k bd 1) (numV (tkO k 1)))⟩ = (kk, ⟨l3, b3⟩) := z2
                  unfold rdRole
                  dsimp only
                  rw [z4]
                rw [y2, listP_next rdRole m ⟨k, bd⟩ hm1 hm2, z3]
                simp only [List.append_assoc, List.cons_append, List.nil_append]
              · dsimp only; omega
        · have hs : m = 0 ∨ bd = true := by revert h; cases bd <;> simp
          rw [listP_stop rdRole m ⟨k, bd⟩ hs, List.append_nil] at y2
          clear h hs ht hN3
          have hq : okLen b.length := hf.1.1
          have hP : parseQ b = ⟨ng, ne, acc, pa⟩ := by
            subst en2 eq3 eq4 eg2 en eq1 eq2 eg el eb eng ene
            have x3 : sumsP (hd3 b) = (acc, ⟨l, bad⟩) := x2
            have y3 : rolesP ⟨l, bad⟩ = (pa, ⟨k, bd⟩) := y2
            unfold parseQ
            rw [x3]
            dsimp only
            rw [y3]
          by_cases hb0 : b = []
          · have hgd : ¬ (decide (((EV.u8 b).len : Int) = 0) = false) := fun h => of_decide_eq_false h (by rw [hb0]; rfl)
            have hl0 : decide (((EV.u8 b).len : Int) = 0) = true := by rw [hb0]; rfl
            have hok : okQ b = false := by unfold okQ; rw [decide_eq_true hb0]; rfl
            repeat' (first
              | ((with_reducible apply Sat.run (X := X64)); exact rfl; (first | exact True.intro | (exact phi) | skip))
              | ((with_reducible apply Sat.cond); exact rfl; all_goals intro h)
              | ((with_reducible apply Sat.out1 (C := ⟨_, _, _, _, _, _, _, _, _⟩)); exact rfl; (first | exact .inl rfl | exact .inr rfl); exact rfl; (exact phi); exact rfl)
              | ((with_reducible apply Sat.goffM (.bool true)); exact rfl; exact hgd; exact rfl) | fail)
            · (refine Sat.fin (Sat.end2 rfl rfl rfl rfl True.intro True.intro (.agg _ _ (.cons _ _ _ _ (.refl _ trivial) (.cons _ _ _ _ (.refl _ trivial) (.cons _ _ _ _ (.nils (keysE []) rfl) (.cons _ _ _ _ (.nils (rolesE []) rfl) .nil))))) (.refl _ trivial) (by first | exact .inl rfl | exact .inr rfl) (fun _ h => h)) ?_; rw [hok]; rfl)
            · exfalso
              rw [hl0] at h
              cases h
          · have hgd : decide (((EV.u8 b).len : Int) = 0) = false := decide_eq_false fun e => hb0 (List.eq_nil_of_length_eq_zero (by simp only [EV.len] at e; omega))
            repeat' (first
              | ((with_reducible apply Sat.run (X := X64)); exact rfl; (first | exact True.intro | (exact phi) | skip))
              | ((with_reducible apply Sat.out1 (C := ⟨_, _, _, _, _, _, _, _, _⟩)); exact rfl; (first | exact .inl rfl | exact .inr rfl); exact rfl; (exact phi); exact rfl)
              | ((with_reducible apply Sat.gon); exact rfl; exact hgd) | fail)
            refine Sat.freezeR true 4 rfl ?_ ?_
            · (repeat' (first | exact AllP.nil | with_reducible refine AllP.cons ?_ ?_)) <;> first | exact rfl | exact trivial | exact .inl ⟨rfl, rfl, rfl⟩ | (intro _ _; simp [pureL, pureS, pureE]; done) | (intro _ _; exact rfl) | (intro _; exact rfl) | (intro _; exact trivial) | (intro _; exact .inl ⟨rfl, rfl, rfl⟩) | (intro _ _ _; simp [pureL, pureS, pureE]; done) | exact ⟨rfl, rfl, rfl, rfl⟩ | (intro _; exact ⟨rfl, rfl, rfl, rfl⟩)
            refine Sat.freezeR true 5 rfl ?_ ?_
            · (repeat' (first | exact AllP.nil | with_reducible refine AllP.cons ?_ ?_)) <;> first | exact rfl | exact trivial | exact .inl ⟨rfl, rfl, rfl⟩ | (intro _ _; simp [pureL, pureS, pureE]; done) | (intro _ _; exact rfl) | (intro _; exact rfl) | (intro _; exact trivial) | (intro _; exact .inl ⟨rfl, rfl, rfl⟩) | (intro _ _ _; simp [pureL, pureS, pureE]; done) | exact ⟨rfl, rfl, rfl, rfl⟩ | (intro _; exact ⟨rfl, rfl, rfl, rfl⟩)
            by_cases hv : rootB ⟨ng, ne, acc, pa⟩ = true
            · have p1 := rootBytes_spec ⟨ng, ne, acc, pa⟩ hv
              have p2 := equal_spec (bytesQ ⟨ng, ne, acc, pa⟩) b
              by_cases he : bytesQ ⟨ng, ne, acc, pa⟩ = b
              · rw [decide_eq_true he] at p2
                have hok : okQ b = true := by unfold okQ; rw [hP, hv, decide_eq_true he, decide_eq_false hb0]; rfl
                repeat' (first
                  | ((with_reducible apply Sat.run (X := X64)); exact rfl; (first | exact True.intro | (exact phi) | skip))
                  | ((with_reducible apply Sat.cond); exact rfl; all_goals intro h)
                  | ((with_reducible apply Sat.gon); exact rfl; exact hgd)
                  | ((with_reducible apply Sat.call (p1)); exact rfl; exact rfl; kernel_rfl; (exact cnvX); exact rfl)
                  | ((with_reducible apply Sat.callR (p2)); exact rfl; exact rfl; exact rfl; kernel_rfl; (exact cnvX); exact rfl) | fail)
                · exfalso; rw [hgd] at h; cases h
                · (refine Sat.fin (Sat.end2 rfl rfl rfl rfl True.intro True.intro (.refl _ (by (repeat' (first | exact True.intro | (intro _ _; simp [pureL, pureS, pureE]; done) | apply And.intro)))) (.refl _ trivial) (by first | exact .inl rfl | exact .inr rfl) (fun _ h => h)) ?_; rw [hok, hP]; rfl)
              · rw [decide_eq_false he] at p2
                have hok : okQ b = false := by unfold okQ; rw [hP, decide_eq_false he]; simp
                repeat' (first
                  | ((with_reducible apply Sat.run (X := X64)); exact rfl; (first | exact True.intro | (exact phi) | skip))
                  | ((with_reducible apply Sat.cond); exact rfl; all_goals intro h)
                  | ((with_reducible apply Sat.gon); exact rfl; exact hgd)
                  | ((with_reducible apply Sat.call (p1)); exact rfl; exact rfl; kernel_rfl; (exact cnvX); exact rfl)
                  | ((with_reducible apply Sat.callR (p2)); exact rfl; exact rfl; exact rfl; kernel_rfl; (exact cnvX); exact rfl) | fail)
                · (refine Sat.fin (Sat.end2 rfl rfl rfl rfl True.intro True.intro (.agg _ _ (.cons _ _ _ _ (.refl _ trivial) (.cons _ _ _ _ (.refl _ trivial) (.cons _ _ _ _ (.nils (keysE []) rfl) (.cons _ _ _ _ (.nils (rolesE []) rfl) .nil))))) (.refl _ trivial) (by first | exact .inl rfl | exact .inr rfl) (fun _ h => h)) ?_; rw [hok]; rfl)
                · exfalso; rw [hgd] at h; cases h
            · have hv' : rootB ⟨ng, ne, acc, pa⟩ = false := by simpa using hv
              have p1 := rootBytes_f ⟨ng, ne, acc, pa⟩ hv'
              have p2 := equal_spec [] b
              rw [decide_eq_false (fun e : [] = b => hb0 e.symm)] at p2
              have hok : okQ b = false := by unfold okQ; rw [hP, hv']; simp
              repeat' (first
                | ((with_reducible apply Sat.run (X := X64)); exact rfl; (first | exact True.intro | (exact phi) | skip))
                | ((with_reducible apply Sat.cond); exact rfl; all_goals intro h)
                | ((with_reducible apply Sat.gon); exact rfl; exact hgd)
                | ((with_reducible apply Sat.call (p1)); exact rfl; exact rfl; kernel_rfl; (exact cnvX); exact rfl)
                | ((with_reducible apply Sat.callR (p2)); exact rfl; exact rfl; exact rfl; kernel_rfl; (exact cnvX); exact rfl) | fail)
              · (refine Sat.fin (Sat.end2 rfl rfl rfl rfl True.intro True.intro (.agg _ _ (.cons _ _ _ _ (.refl _ trivial) (.cons _ _ _ _ (.refl _ trivial) (.cons _ _ _ _ (.nils (keysE []) rfl) (.cons _ _ _ _ (.nils (rolesE []) rfl) .nil))))) (.refl _ trivial) (by first | exact .inl rfl | exact .inr rfl) (fun _ h => h)) ?_; rw [hok]; rfl)
              · exfalso; rw [hgd] at h; cases h
end Go.Proofs.YtokaegeediokoaaGreatDoor
end
section
namespace Go.Proofs.YtokaegeediokoaaGreatDoor
open Go.RowKit V
set_option maxRecDepth 100000
set_option maxHeartbeats 1000000
set_option linter.unusedSimpArgs false
theorem wrap_u8 (x : Int) : IntKind.u8.wrap x = x % 256 := by
  simp [IntKind.wrap, IntKind.bits, IntKind.signed]
theorem nb_toNat (n k : Nat) : (nb (n : Int) k).toNat = n / 2 ^ k % 256 := by
  unfold nb
  rw [wrap_u8]
  have e : ((n : Int) / 2 ^ k % 256).toNat = n / 2 ^ k % 256 := by
    rw [show (2 : Int) ^ k = ((2 ^ k : Nat) : Int) by simp, ← Int.natCast_ediv]
    omega
  rw [e, UInt8.toNat_ofNat_of_lt' (by show _ < 256; omega)]
theorem numV_num1 (n : Nat) (h : n < 256) : numV (num1 (n : Int)) = n := by
  simp only [numV, num1, List.foldl, nb_toNat]
  omega
theorem numV_num2 (n : Nat) (h : n < 65536) : numV (num2 (n : Int)) = n := by
  simp only [numV, num2, List.foldl, nb_toNat]
  omega
theorem numV_num4 (n : Nat) (h : n < 4294967296) : numV (num4 (n : Int)) = n := by
  simp only [numV, num4, List.foldl, nb_toNat]
  omega
theorem numV1 (n : Int) (h0 : 0 ≤ n) (h : n < 256) : (numV (num1 n) : Int) = n := by
  have := numV_num1 n.toNat (by omega)
  rw [Int.toNat_of_nonneg h0] at this
  omega
theorem numV2 (n : Int) (h0 : 0 ≤ n) (h : n < 65536) : (numV (num2 n) : Int) = n := by
  have := numV_num2 n.toNat (by omega)
  rw [Int.toNat_of_nonneg h0] at this
  omega
theorem numV4 (n : Int) (h0 : 0 ≤ n) (h : n < 4294967296) : (numV (num4 n) : Int) = n := by
  have := numV_num4 n.toNat (by omega)
  rw [Int.toNat_of_nonneg h0] at this
  omega
theorem tkO_app {m : List UInt8} {n : Nat} (h : m.length = n) (r : List UInt8) : tkO (m ++ r) n = m := by
  subst h
  unfold tkO
  rw [if_pos (by simp)]
  simp
theorem tkR_app {m : List UInt8} {n : Nat} (h : m.length = n) (r : List UInt8) : tkR (m ++ r) n = r := by
  subst h
  unfold tkR
  rw [if_pos (by simp)]
  simp
theorem tkB_app {m : List UInt8} {n : Nat} (h : m.length = n) (r : List UInt8) (bad : Bool) : tkB (m ++ r) bad n = bad := by
  subst h
  unfold tkB
  rw [if_pos (by simp)]
theorem hashO_app {m : List UInt8} (h : m.length = 32) (r : List UInt8) : hashO (m ++ r) = m := by
  unfold hashO
  rw [if_pos (by simp; omega), ← h]
  simp
attribute [local irreducible] tkO tkR tkB numV hashO
theorem listP_enc {α : Type} (rd : RdS → α × RdS) (enc : α → List UInt8) (Q : α → Prop) (h : ∀ x rest, Q x → rd ⟨enc x ++ rest, false⟩ = (x, ⟨rest, false⟩)) : ∀ (xs : List α) (rest : List UInt8), (∀ x ∈ xs, Q x) → listP rd xs.length ⟨xs.flatMap enc ++ rest, false⟩ = (xs, ⟨rest, false⟩)
  | [], rest, _ => rfl
  | x :: xs, rest, hq => by
    have ih := listP_enc rd enc Q h xs rest fun y hy => hq y (List.mem_cons_of_mem _ hy)
    have h1 := h x (xs.flatMap enc ++ rest) (hq x (List.mem_cons_self ..))
    simp only [List.flatMap_cons, List.append_assoc, List.length_cons]
    rw [listP_next rd _ _ (Nat.succ_pos _) rfl, h1]
    dsimp only
    rw [show xs.length + 1 - 1 = xs.length from rfl, ih]
theorem rdInt2_enc (x : Int) (rest : List UInt8) (h : 0 ≤ x ∧ x < 65536) : rdInt2 ⟨num2 x ++ rest, false⟩ = (x, ⟨rest, false⟩) := by
  unfold rdInt2
  dsimp only [RdS.num, RdS.tk]
  rw [tkO_app (num2_len x), tkR_app (num2_len x), tkB_app (num2_len x), numV2 x h.1 h.2]
def partW (p : PartL) : List UInt8 := num1 p.name.length ++ p.name ++ p.hash
theorem rdPart_enc (p : PartL) (rest : List UInt8) (h : p.name.length < 256 ∧ p.hash.length = 32) : rdPart ⟨partW p ++ rest, false⟩ = (p, ⟨rest, false⟩) := by
  obtain ⟨nm, hs⟩ := p
  dsimp only at h
  have e1 : numV (num1 (nm.length : Int)) = nm.length := numV_num1 _ h.1
  unfold rdPart partW
  dsimp only [RdS.num, RdS.tk]
  rw [List.append_assoc, List.append_assoc]
  rw [tkO_app (num1_len _), tkR_app (num1_len _), tkB_app (num1_len _), e1, tkO_app rfl, tkR_app rfl, tkB_app rfl, hashO_app h.2, tkR_app h.2, tkB_app h.2]
structure RelW (r : Rel) : Prop where
  image : r.image.length = 32
  tree : r.tree.length = 32
  parts : ∀ p ∈ r.parts, p.hash.length = 32
theorem mem_getD {α : Type} (l : List α) (d : α) (x : α) (h : x ∈ l) : ∃ i, i < l.length ∧ l.getD i d = x := by
  obtain ⟨i, hi, e⟩ := List.mem_iff_getElem.1 h
  exact ⟨i, hi, by simp [List.getD_eq_getElem?_getD, hi, e]⟩
theorem valid_nums {r : Rel} (hv : validB r = true) : (1 ≤ r.version ∧ r.version ≤ 60000) ∧ (0 ≤ r.floor ∧ r.floor ≤ r.version) ∧ (0 ≤ r.expiry ∧ r.expiry ≤ 1000000000) ∧ (0 ≤ r.size ∧ r.size ≤ 65536) ∧ (1 ≤ r.chunks ∧ r.chunks ≤ 256) ∧ r.gone.length ≤ 16 ∧ r.parts.length ≤ 8 ∧ ∀ x ∈ r.gone, 0 ≤ x ∧ x < 65536 := by
  unfold validB at hv
  simp only [Bool.and_eq_true] at hv
  obtain ⟨h1, h2, _, _⟩ := hv
  unfold valid1 inB at h1
  unfold valid2 at h2
  simp only [Bool.and_eq_true, decide_eq_true_eq] at h1 h2
  obtain ⟨h3, h4, h5⟩ := h2
  refine ⟨by omega, by omega, by omega, by omega, by omega, h3, h5, fun x hx => ?_⟩
  obtain ⟨i, hi, rfl⟩ := mem_getD r.gone 0 x hx
  have := (of_decide_eq_true h4 i hi).1
  unfold inB at this
  simp only [Bool.and_eq_true, decide_eq_true_eq] at this
  omega
def endP (b : List UInt8) : RdS := (partsP (goneP (hd8 b)).2).2
theorem parse_enc (r : Rel) (hv : validB r = true) (hw : RelW r) (more : List UInt8) : parseP (bytesR r ++ more) = r ∧ endP (bytesR r ++ more) = ⟨more, false⟩ := by
  obtain ⟨n1, n2, n3, n4, n5, n6, n7, n8⟩ := valid_nums hv
  have nl : ∀ p ∈ r.parts, p.name.length < 256 ∧ p.hash.length = 32 := fun p hp => by
    obtain ⟨i, hi, rfl⟩ := mem_getD r.parts part0 p hp
    exact ⟨by have := name_len hv i hi; omega, hw.parts _ hp⟩
  obtain ⟨v, fl, ex, sz, im, ch, tr, go, pa⟩ := r
  obtain ⟨w1, w2, -⟩ := hw
  dsimp only at n1 n2 n3 n4 n5 n6 n7 n8 nl w1 w2
  have hb : bytesR ⟨v, fl, ex, sz, im, ch, tr, go, pa⟩ ++ more = num1 86 ++ (num2 v ++ (num2 fl ++ (num4 ex ++ (num4 sz ++ (im ++ (num2 ch ++ (tr ++ (num1 go.length ++ (go.flatMap num2 ++ (num1 pa.length ++ (pa.flatMap partW ++ more))))))))))) := by
    simp only [bytesR, hdr, partsW, List.append_assoc]
    rfl
  rw [hb]
  have e1 : ((numV (num1 (go.length : Int)) : Nat)) = go.length := numV_num1 _ (by omega)
  have e2 : ((numV (num1 (pa.length : Int)) : Nat)) = pa.length := numV_num1 _ (by omega)
  have g1 : goneP ⟨num1 go.length ++ (go.flatMap num2 ++ (num1 pa.length ++ (pa.flatMap partW ++ more))), false⟩ = (go, ⟨num1 pa.length ++ (pa.flatMap partW ++ more), false⟩) := by
    unfold goneP
    dsimp only [RdS.num, RdS.tk]
    rw [tkO_app (num1_len _), tkR_app (num1_len _), tkB_app (num1_len _), e1]
    exact listP_enc rdInt2 num2 _ rdInt2_enc go _ n8
  have g2 : partsP ⟨num1 pa.length ++ (pa.flatMap partW ++ more), false⟩ = (pa, ⟨more, false⟩) := by
    unfold partsP
    dsimp only [RdS.num, RdS.tk]
    rw [tkO_app (num1_len _), tkR_app (num1_len _), tkB_app (num1_len _), e2]
    exact listP_enc rdPart partW _ rdPart_enc pa _ nl
  have h8 : hd8 (num1 86 ++ (num2 v ++ (num2 fl ++ (num4 ex ++ (num4 sz ++ (im ++ (num2 ch ++ (tr ++ (num1 go.length ++ (go.flatMap num2 ++ (num1 pa.length ++ (pa.flatMap partW ++ more)))))))))))) = ⟨num1 go.length ++ (go.flatMap num2 ++ (num1 pa.length ++ (pa.flatMap partW ++ more))), false⟩ := by
    unfold hd8
    simp only [tkR_app (num1_len 86), tkR_app (num2_len v), tkR_app (num2_len fl), tkR_app (num4_len ex), tkR_app (num4_len sz), tkR_app w1, tkR_app (num2_len ch), tkR_app w2, tkB_app (num1_len 86), tkB_app (num2_len v), tkB_app (num2_len fl), tkB_app (num4_len ex), tkB_app (num4_len sz), tkB_app w1, tkB_app (num2_len ch), tkB_app w2]
  constructor
  · unfold parseP
    rw [h8, g1]
    dsimp only
    rw [g2]
    simp only [tkR_app (num1_len 86), tkR_app (num2_len v), tkR_app (num2_len fl), tkR_app (num4_len ex), tkR_app (num4_len sz), tkR_app w1, tkR_app (num2_len ch), tkR_app w2, tkO_app (num2_len v), tkO_app (num2_len fl), tkO_app (num4_len ex), tkO_app (num4_len sz), tkO_app (num2_len ch), hashO_app w1, hashO_app w2]
    rw [numV2 v (by omega) (by omega), numV2 fl (by omega) (by omega), numV4 ex (by omega) (by omega), numV4 sz (by omega) (by omega), numV2 ch (by omega) (by omega)]
  · unfold endP
    rw [h8, g1]
    dsimp only
    rw [g2]
theorem bytesR_ne (r : Rel) : bytesR r ≠ [] := by
  unfold bytesR hdr num1
  simp
theorem okP_of (r : Rel) (hv : validB r = true) (hw : RelW r) : okP (bytesR r) = true ∧ parseP (bytesR r) = r := by
  have h := (parse_enc r hv hw []).1
  rw [List.append_nil] at h
  refine ⟨?_, h⟩
  unfold okP
  rw [h, hv, decide_eq_true rfl, decide_eq_false (bytesR_ne r)]
  rfl
end Go.Proofs.YtokaegeediokoaaGreatDoor
end
section
namespace Go.Proofs.YtokaegeediokoaaGreatDoor
open Go.RowKit V
set_option maxRecDepth 100000
set_option maxHeartbeats 8000000
set_option linter.unusedSimpArgs false
attribute [local irreducible] tkO tkR tkB numV hashO
structure RootW (r : RootL) : Prop where
  keys : ∀ k ∈ r.keys, k.length = 32
theorem rdSum_enc (x : List UInt8) (rest : List UInt8) (h : x.length = 32) : rdSum ⟨x ++ rest, false⟩ = (x, ⟨rest, false⟩) := by
  unfold rdSum
  dsimp only [RdS.tk]
  rw [hashO_app h, tkR_app h, tkB_app h]
theorem rdInt1_enc (x : Int) (rest : List UInt8) (h : 0 ≤ x ∧ x < 256) : rdInt1 ⟨num1 x ++ rest, false⟩ = (x, ⟨rest, false⟩) := by
  unfold rdInt1
  dsimp only [RdS.num, RdS.tk]
  rw [tkO_app (num1_len x), tkR_app (num1_len x), tkB_app (num1_len x), numV1 x h.1 h.2]
def RoleQ (x : RoleL) : Prop := x.name.length < 256 ∧ x.keys.length < 256 ∧ (∀ k ∈ x.keys, 0 ≤ k ∧ k < 256) ∧ 0 ≤ x.need ∧ x.need < 256
theorem keysP_enc (ks : List Int) (rest : List UInt8) (h1 : ks.length < 256) (h2 : ∀ k ∈ ks, 0 ≤ k ∧ k < 256) : keysP ⟨num1 ks.length ++ (ks.flatMap num1 ++ rest), false⟩ = (ks, ⟨rest, false⟩) := by
  have e1 : numV (num1 (ks.length : Int)) = ks.length := numV_num1 _ h1
  unfold keysP
  dsimp only [RdS.num, RdS.tk]
  rw [tkO_app (num1_len _), tkR_app (num1_len _), tkB_app (num1_len _), e1]
  exact listP_enc rdInt1 num1 _ rdInt1_enc ks _ h2
theorem rdRole_enc (x : RoleL) (rest : List UInt8) (h : RoleQ x) : rdRole ⟨roleW x ++ rest, false⟩ = (x, ⟨rest, false⟩) := by
  obtain ⟨nm, ks, nd⟩ := x
  obtain ⟨h1, h2, h3, h4, h5⟩ := h
  dsimp only at h1 h2 h3 h4 h5
  have e1 : numV (num1 (nm.length : Int)) = nm.length := numV_num1 _ h1
  have e2 := keysP_enc ks (num1 nd ++ rest) h2 h3
  unfold rdRole roleW
  dsimp only [RdS.num, RdS.tk]
  simp only [List.append_assoc]
  rw [tkO_app (num1_len _), tkR_app (num1_len _), tkB_app (num1_len _), e1, tkO_app rfl, tkR_app rfl, tkB_app rfl, e2]
  dsimp only
  rw [tkO_app (num1_len _), tkR_app (num1_len _), tkB_app (num1_len _), numV1 nd h4 h5]
theorem root_nums {r : RootL} (hv : rootB r = true) : (1 ≤ r.gen ∧ r.gen ≤ 1000000) ∧ (0 ≤ r.expiry ∧ r.expiry ≤ 1000000000) ∧ (1 ≤ r.keys.length ∧ r.keys.length ≤ 8) ∧ (1 ≤ r.roles.length ∧ r.roles.length ≤ 8) ∧ ∀ x ∈ r.roles, RoleQ x := by
  have hf := root_facts hv
  unfold rootB at hv
  simp only [Bool.and_eq_true] at hv
  obtain ⟨h1, _, h3⟩ := hv
  unfold root1 inB at h1
  simp only [Bool.and_eq_true, decide_eq_true_eq] at h1
  have h4 := of_decide_eq_true h3
  refine ⟨by omega, by omega, by omega, by omega, fun x hx => ?_⟩
  obtain ⟨i, hi, rfl⟩ := mem_getD r.roles role0 x hx
  have h5 := hf.name i hi
  have h6 := hf.rk i hi
  obtain ⟨-, -, -, q4, q5⟩ := h4 i hi
  unfold inB at q5
  simp only [Bool.and_eq_true, decide_eq_true_eq] at q5
  refine ⟨by omega, by omega, fun k hk => ?_, by omega, by omega⟩
  obtain ⟨j, hj, rfl⟩ := mem_getD _ 0 k hk
  have := (of_decide_eq_true q4 j hj).1
  unfold inB at this
  simp only [Bool.and_eq_true, decide_eq_true_eq] at this
  omega
def endQ (b : List UInt8) : RdS := (rolesP (sumsP (hd3 b)).2).2
theorem parseQ_enc (r : RootL) (hv : rootB r = true) (hw : RootW r) (more : List UInt8) : parseQ (bytesQ r ++ more) = r ∧ endQ (bytesQ r ++ more) = ⟨more, false⟩ := by
  obtain ⟨n1, n2, n3, n4, n5⟩ := root_nums hv
  obtain ⟨w1⟩ := hw
  obtain ⟨g, ex, ks, rs⟩ := r
  dsimp only at n1 n2 n3 n4 n5 w1
  have hfl : ks.flatten = ks.flatMap id := by simp
  have hb : bytesQ ⟨g, ex, ks, rs⟩ ++ more = num1 82 ++ (num4 g ++ (num4 ex ++ (num1 ks.length ++ (ks.flatMap id ++ (num1 rs.length ++ (rs.flatMap roleW ++ more)))))) := by
    simp only [bytesQ, hdrR, List.append_assoc, hfl]
  rw [hb]
  have e1 : ((numV (num1 (ks.length : Int)) : Nat)) = ks.length := numV_num1 _ (by omega)
  have e2 : ((numV (num1 (rs.length : Int)) : Nat)) = rs.length := numV_num1 _ (by omega)
  have g1 : sumsP ⟨num1 ks.length ++ (ks.flatMap id ++ (num1 rs.length ++ (rs.flatMap roleW ++ more))), false⟩ = (ks, ⟨num1 rs.length ++ (rs.flatMap roleW ++ more), false⟩) := by
    unfold sumsP
    dsimp only [RdS.num, RdS.tk]
    rw [tkO_app (num1_len _), tkR_app (num1_len _), tkB_app (num1_len _), e1]
    exact listP_enc rdSum id (fun k => k.length = 32) rdSum_enc ks _ w1
  have g2 : rolesP ⟨num1 rs.length ++ (rs.flatMap roleW ++ more), false⟩ = (rs, ⟨more, false⟩) := by
    unfold rolesP
    dsimp only [RdS.num, RdS.tk]
    rw [tkO_app (num1_len _), tkR_app (num1_len _), tkB_app (num1_len _), e2]
    exact listP_enc rdRole roleW RoleQ rdRole_enc rs _ n5
  have h8 : hd3 (num1 82 ++ (num4 g ++ (num4 ex ++ (num1 ks.length ++ (ks.flatMap id ++ (num1 rs.length ++ (rs.flatMap roleW ++ more))))))) = ⟨num1 ks.length ++ (ks.flatMap id ++ (num1 rs.length ++ (rs.flatMap roleW ++ more))), false⟩ := by
    unfold hd3
    simp only [tkR_app (num1_len 82), tkR_app (num4_len g), tkR_app (num4_len ex), tkB_app (num1_len 82), tkB_app (num4_len g), tkB_app (num4_len ex)]
  refine ⟨?_, ?_⟩
  · unfold parseQ
    rw [h8, g1]
    dsimp only
    rw [g2]
    simp only [tkR_app (num1_len 82), tkR_app (num4_len g), tkO_app (num4_len g), tkO_app (num4_len ex)]
    rw [numV4 g (by omega) (by omega), numV4 ex (by omega) (by omega)]
  · unfold endQ
    rw [h8, g1]
    dsimp only
    rw [g2]
theorem bytesQ_ne (r : RootL) : bytesQ r ≠ [] := by
  unfold bytesQ hdrR num1
  simp
theorem okQ_of (r : RootL) (hv : rootB r = true) (hw : RootW r) : okQ (bytesQ r) = true ∧ parseQ (bytesQ r) = r := by
  have h := (parseQ_enc r hv hw []).1
  rw [List.append_nil] at h
  refine ⟨?_, h⟩
  unfold okQ
  rw [h, hv, decide_eq_true rfl, decide_eq_false (bytesQ_ne r)]
  rfl
end Go.Proofs.YtokaegeediokoaaGreatDoor
end
section
namespace Go.Proofs.YtokaegeediokoaaGreatDoor.V
open Go.RowKit Go.Maps Go.ChangeMaps Go.MapKept
structure SetTy (P : Program) (mt kt et : TypeId) : Prop where
  key : Keyed P kt
  um : P.underlying mt = some (.map kt et)
  uk : P.underlying kt = some (.int .i64)
  ue : P.underlying et = some .bool
  zero : ∀ w, (zeroValue et).run P w = .ok (.bool false) w
def setIs (P : Program) (kt et : TypeId) (w : World) (bm : Nat) (S : List Int) : Prop :=
  ∃ D : DataW Unit, w.ownsMap P kt (plainElem P et) bm S.length D ∧ size D = S.length ∧ ∀ c : Int, has D (.int .i64 c) = S.contains c ∧ D.atKey (.int .i64 c) (.lit (.bool false)) = .lit (.bool (S.contains c))
section
variable {P : Program} {mt kt et : TypeId} {w w' : World} {bm : Nat} {S : List Int}
theorem setIs.kept (h : setIs P kt et w bm S) (hb : w'.heap[bm]? = w.heap[bm]?) : setIs P kt et w' bm S := by
  obtain ⟨D, ⟨es, clock, h1, h2⟩, h3⟩ := h
  exact ⟨D, ⟨es, clock, hb.trans h1, h2⟩, h3⟩
theorem setIs.lt (h : setIs P kt et w bm S) : bm < w.heap.size := by
  obtain ⟨D, h1, _⟩ := h
  exact h1.lt
theorem setIs.shape (h : setIs P kt et w bm S) : w.shape? bm = none := by
  obtain ⟨D, ⟨es, clock, h1, h2⟩, h3⟩ := h
  unfold World.shape?
  rw [h1]
theorem setIs_made (w : World) : setIs P kt et (w.alloc (.map #[] 0)) w.heap.size [] :=
  ⟨.map [], World.ownsMap_made w _ _ _, rfl, fun _ => ⟨rfl, rfl⟩⟩
theorem lit_wf {c : Int} (h : inR .i64 c) : (Lit.int .i64 c).wf = true := by
  have := i64_iff h
  unfold Lit.wf
  simp [IntKind.min, IntKind.max, IntKind.signed, IntKind.bits]
  omega
theorem setIs.look (t : SetTy P mt kt et) (h : setIs P kt et w bm S) {c : Int} (hc : inR .i64 c) : (Instr.lookup mt (.map (some bm)) (.int .i64 c) false).run P w = .ok (.bool (S.contains c)) w := by
  obtain ⟨D, h1, h2, h3⟩ := h
  obtain ⟨v, ps, hrun, hv⟩ := h1.lookup t.key t.um (t.zero w) (plainElem_bool t.ue false) (keyOf_int_mk t.uk (lit_wf hc))
  rw [(h3 c).2] at hv
  rw [hrun]
  unfold plainElem at hv
  rw [t.ue] at hv
  cases v with
  | bool b =>
    simp only [Option.some.injEq, Prod.mk.injEq, DataW.lit.injEq, Lit.bool.injEq] at hv
    rw [hv.1]
  | _ => cases hv
theorem setIs.put (t : SetTy P mt kt et) (h : setIs P kt et w bm S) {c : Int} (hc : inR .i64 c) (hn : S.contains c = false) (hl : S.length < maxLen) :
    ∃ w', (Instr.mapUpdate mt (.map (some bm)) (.int .i64 c) (.bool true)).run P w = .ok () w' ∧ setIs P kt et w' bm (c :: S) ∧ w.grownBy w' (some bm) := by
  obtain ⟨D, h1, h2, h3⟩ := h
  obtain ⟨w', q1, q2, q3⟩ := h1.update t.key t.um hl (keyOf_int_mk t.uk (lit_wf hc)) (plainElem_bool t.ue true)
  have hM := h1.isMap
  have hk : ∀ c : Int, WideAt.IsKeyLit (.int .i64 c) := fun c => by simp [WideAt.IsKeyLit]
  refine ⟨w', q1, ⟨_, q2, ?_, fun d => ?_⟩, q3⟩
  · rw [size_put (h1.tidy t.key), (h3 c).1, hn, h2]
    rfl
  · by_cases hd : d = c
    · subst hd
      rw [atKey_put_same hM (hk d), has_put_same hM (hk d)]
      simp
    · have hne : (Lit.int .i64 d) ≠ (Lit.int .i64 c) := fun e => hd (by simpa using e)
      rw [atKey_put_other hne, has_put_other hne]
      have : (c :: S).contains d = S.contains d := by simp [hd]
      rw [this]
      exact h3 d
theorem setIs.len (t : SetTy P mt kt et) (h : setIs P kt et w bm S) (ty : TypeId) : (Builtin.len_ #[mt] ty #[.map (some bm)]).run P w = .ok (.int .i64 (S.length : Int)) w := by
  obtain ⟨D, h1, h2, h3⟩ := h
  rw [h1.len t.um ty, h2]
theorem setIs.clear (t : SetTy P mt kt et) (h : setIs P kt et w bm S) (ty : TypeId) : ∃ w', (Builtin.clear_ #[mt] ty #[.map (some bm)]).run P w = .ok (.tuple #[]) w' ∧ w.grownBy w' (some bm) ∧ w'.shape? bm = none := by
  obtain ⟨D, ⟨es, clock, hb, h2⟩, h3⟩ := h
  have hb2 : ∀ (b : Nat), b < w.heap.size → some b ≠ some bm → (setBlock w bm (.map #[] clock)).heap[b]? = w.heap[b]? := fun b _ hne => heap_setBlock_other hb _ fun e => hne (by rw [e])
  refine ⟨setBlock w bm (.map #[] clock), ?_, ⟨rfl, rfl, rfl, by simp [setBlock], hb2⟩, by unfold World.shape?; rw [heap_setBlock_same hb]⟩
  simp [Builtin.clear_, run_underlying t.um, MapKept.run_getObj_map hb, MapKept.run_setObj_map _ hb, Result.andThen, setBlock]
end
def setT (P : Program) (kt et : TypeId) (bm : Nat) (S : List Int) : Thing where
  own w Sm := (∀ b, Sm b ↔ b = bm) ∧ setIs P kt et w bm S
  lt h b hb := by
    rw [(h.1 b).1 hb]
    exact h.2.lt
  kept h k := ⟨h.1, h.2.kept (k bm ((h.1 bm).2 rfl))⟩
def junkT (bm : Nat) : Thing where
  own w Sm := (∀ b, Sm b ↔ b = bm) ∧ ∃ o, w.heap[bm]? = some o
  lt {w _} h b hb := by
    obtain ⟨h1, o, h2⟩ := h
    rw [(h1 b).1 hb]
    rcases Nat.lt_or_ge bm w.heap.size with q | q
    · exact q
    · rw [Array.getElem?_eq_none q] at h2; cases h2
  kept h k := ⟨h.1, h.2.imp fun o ho => (k bm ((h.1 bm).2 rfl)).trans ho⟩
section
variable {C : Ctx} {Q0 : Exit → Act → World → Prop} {F F' : Tr} {M M' : Mem} {ids ids' : List Nat} {k : List Kont} {l : List (Nat × Nat)} {U : Nat → Prop} {E : Env} {a : Act} {w w' : World} {W : World} {S Sm : Nat → Prop} {full rest : List Oper} {mt kt et : TypeId} {bm : Nat} {L : List Int}
theorem St.touch {O : Thing} (O' : Thing) (c : Top C) (hat : AtX C O W S Sm) (h : St (C.at W S (hidX C Sm) l) F M U E a w) (hb : Sm bm) (hg : w.grownBy w' (some bm)) (hsh : w'.shape? bm = w.shape? bm) (hown : O'.own w' Sm) :
    AtX C O' w' (V.mine M E) Sm ∧ St (C.at w' (V.mine M E) (hidX C Sm) l) F M U E a w' := by
  have hap := h.apart c.wide
  have hlt := h.lt c.wide
  have hnew := hat.new bm hb
  have hchg : Chg (trk (hidX C Sm) M E) w w' := ⟨hg.size, fun b hbs hT => hg.block b hbs fun e => hT (.inr (.inr (Option.some.inj e ▸ hb))), fun b hbs => by
    by_cases e : b = bm
    · subst e; exact hsh
    · unfold World.shape?; rw [hg.block b hbs fun q => e (Option.some.inj q)]⟩
  refine ⟨⟨⟨hg.os.trans (h.kp.os.trans hat.kp.os), hg.tape.trans (h.kp.tape.trans hat.kp.tape), hg.output.trans (h.kp.output.trans hat.kp.output), ?_⟩, hat.mine h, hown, hat.new⟩, ?_⟩
  · have h1 := (Kp.trans hat.kp h.kp hat.sp).chg
    refine ⟨Nat.le_trans h1.size hg.size, fun b hbs hS => (hg.block b (Nat.lt_of_lt_of_le hbs h1.size) fun e => ?_).trans (h1.keep b hbs hS), fun b hbs => (hchg.shape b (Nat.lt_of_lt_of_le hbs h1.size)).trans (h1.shape b hbs)⟩
    have := Option.some.inj e
    omega
  · refine h.anew (E' := E) (M' := M) (U' := U) (fun _ _ h => h) hchg (hidX C Sm) (fun b hb => ⟨Nat.lt_of_lt_of_le (hlt b (.inr hb)) hg.size, fun ⟨j, B, q1, q2⟩ => hap j b (by rw [q1]; rfl) q2 hb⟩) (fun _ _ h => h) ⟨fun j B hf => ?_, h.mem.inj⟩ h.fresh (fun q hq => h.pinned hq)
    rcases h.mem.blk j B hf with ⟨b, q1, q2, q3⟩ | q
    · exact .inl ⟨b, q1, Nat.lt_of_lt_of_le q2 hg.size, q3.mono (fun _ _ h => h) (fun _ _ h => h) hchg (hg.block b q2 fun e => hap j b (by rw [hf]; rfl) q1 (.inr (Option.some.inj e ▸ hb)))⟩
    · exact .inr q
theorem Sat.makeSet {d : Tmp} {type : TypeId} {pos : String} {after : Array Edge} {Fn : Nat → Tr} (c : Top C) (kt et : TypeId) (hp : ∀ bm, putD C.N F (some d) (some (.val (.map (some bm)))) some = some (Fn bm))
    (h : ∀ bm W S, AtX C (setT C.P kt et bm []) W S (fun b => b = bm) → Sat (C.at W S (hidX C fun b => b = bm) []) Q0 (.reg full rest (Fn bm) M ids k)) :
    Sat C Q0 (.reg full (⟨some d, .makeMap mt none, type, pos, after, none⟩ :: rest) F M ids k) := by
  intro U E a w hsup hst
  refine wpList_plain rfl fun K hK => ?_
  have hrun : (execOp a.eval ⟨some d, .makeMap mt none, type, pos, after, none⟩).run C.P w = .ok (.value (.map (some w.heap.size))) (w.alloc (.map #[] 0)) := rfl
  unfold Oper.wp
  rw [hrun]
  have hb : Below w.heap.size w (w.alloc (.map #[] 0)) := (Below.refl _ w).alloc (Nat.le_refl _) _
  obtain ⟨F1, h1, h2⟩ := putD_inv (hp w.heap.size)
  cases h1
  have hst2 := hst.below hb
  have hlt : w.heap.size < (w.alloc (.map #[] 0)).heap.size := (setIs_made (P := C.P) (kt := kt) (et := et) w).lt
  have hat : AtX C (setT C.P kt et w.heap.size []) (w.alloc (.map #[] 0)) (V.mine M E) (fun b => b = w.heap.size) :=
    ⟨hst2.kp, fun b ⟨id, B, q1, q2⟩ => hst.own id b (by rw [q1]; rfl) q2, ⟨fun b => Iff.rfl, setIs_made w⟩, fun b hb' => by rw [hb']; exact hst.kp.chg.size⟩
  have hap : ∀ b, hidX C (fun b => b = w.heap.size) b → b < (w.alloc (.map #[] 0)).heap.size ∧ ¬ V.mine M E b := by
    rintro b (q | q)
    · exact ⟨hst2.lt c.wide b (.inr q), fun ⟨id, B, q1, q2⟩ => hst2.apart c.wide id b (by rw [q1]; rfl) q2 q⟩
    · refine ⟨q ▸ hlt, fun ⟨id, B, q1, q2⟩ => ?_⟩
      have := (hst.mem.at q1 q2).1
      have q : b = w.heap.size := q
      omega
  have hTT : ∀ b, b < w.heap.size → trk (hidX C fun b => b = w.heap.size) M E b → trk C.T0 M E b := by
    rintro b hb' (q | q | q)
    · exact .inl q
    · exact .inr q
    · have q : b = w.heap.size := q; omega
  have hmem : MOk E (trk (hidX C fun b => b = w.heap.size) M E) M (w.alloc (.map #[] 0)) := ⟨fun id B hf => by
    rcases hst.mem.blk id B hf with ⟨b, q1, q2, q3⟩ | q
    · exact .inl ⟨b, q1, Nat.lt_of_lt_of_le q2 hb.size, q3.mono (fun _ _ h => h) hTT (Chg.of_below hb) (hb.block b q2)⟩
    · exact .inr q, hst.mem.inj⟩
  have h3 := hst.anew (E' := E) (M' := M) (U' := U) (l := []) (fun _ _ h => h) (Chg.of_below hb) (hidX C fun b => b = w.heap.size) hap hTT hmem hst.fresh (fun _ h => by cases h)
  exact hK _ _ (h _ _ _ hat U E _ _ hsup (St.putD h3 h2 fun s' hs' => by cases hs'; exact .val _))
theorem Sat.putSet {m x : Operand} {type : TypeId} {pos : String} {after : Array Edge} {z : Int} (c : Top C) (t : SetTy C.P mt kt et) (hat : AtX C (setT C.P kt et bm L) W S (fun b => b = bm)) (hm : opd C.Γ F m = some (.val (.map (some bm)))) (hx : opd C.Γ F x = some (.int .i64 z)) (hn : L.contains z = false) (hl : L.length < maxLen)
    (h : ∀ W S, AtX C (setT C.P kt et bm (z :: L)) W S (fun b => b = bm) → Sat (C.at W S (hidX C fun b => b = bm) l) Q0 (.reg full rest F M ids k)) :
    Sat (C.at W S (hidX C fun b => b = bm) l) Q0 (.reg full (⟨none, .mapUpdate mt m x (.const (.bool true)), type, pos, after, none⟩ :: rest) F M ids k) := by
  intro U E a w hsup hst
  refine wpList_plain rfl fun K hK => ?_
  have hown := (hat.here c hst).2
  have hsh := hown.shape
  have e1 : a.eval m = .map (some bm) := by
    have := opd_rep hst.vw hm
    generalize a.eval m = q at this
    cases this
    rfl
  obtain ⟨e2, hz⟩ : a.eval x = .int .i64 z ∧ inR .i64 z := by
    have := opd_rep hst.vw hx
    generalize a.eval x = q at this
    cases this with
    | int _ _ hz => exact ⟨rfl, hz⟩
  obtain ⟨w', q1, q2, q3⟩ := hown.put t hz hn hl
  have hrun : (execOp a.eval ⟨none, .mapUpdate mt m x (.const (.bool true)), type, pos, after, none⟩).run C.P w = .ok .skip w' := by
    have e3 : a.eval (.const (.bool true)) = .bool true := rfl
    simp only [execOp, e1, e2, e3, Sem.run_bind, q1, Result.andThen_ok, Sem.run_pure]
  unfold Oper.wp
  rw [show (C.at W S (hidX C fun b => b = bm) l).P = C.P from rfl, hrun]
  obtain ⟨g1, g2⟩ := hst.touch (setT C.P kt et bm (z :: L)) c hat rfl q3 (q2.shape.trans hsh.symm) ⟨fun b => Iff.rfl, q2⟩
  exact hK _ _ (h _ _ g1 U E _ _ hsup g2)
theorem Sat.lenSet {d : Option Tmp} {m : Operand} {type : TypeId} {pos : String} {after : Array Edge} (c : Top C) (t : SetTy C.P mt kt et) (hat : AtX C (setT C.P kt et bm L) W S (fun b => b = bm)) (hm : opd C.Γ F m = some (.val (.map (some bm)))) (hi : inR .i64 (L.length : Int)) (hp : putD C.N F d (some (.int .i64 (L.length : Int))) some = some F')
    (h : Sat (C.at W S (hidX C fun b => b = bm) l) Q0 (.reg full rest F' M ids k)) :
    Sat (C.at W S (hidX C fun b => b = bm) l) Q0 (.reg full (⟨d, .call ⟨.builtin .len, ⟨[m]⟩, ⟨[mt]⟩⟩, type, pos, after, none⟩ :: rest) F M ids k) := by
  intro U E a w hsup hst
  obtain ⟨F1, h1, h2⟩ := putD_inv hp
  cases h1
  refine wpList_plain rfl fun K hK => ?_
  have hown := (hat.here c hst).2
  have e1 : a.eval m = .map (some bm) := by
    have := opd_rep hst.vw hm
    generalize a.eval m = q at this
    cases this
    rfl
  have hrun : (execOp a.eval ⟨d, .call ⟨.builtin .len, ⟨[m]⟩, ⟨[mt]⟩⟩, type, pos, after, none⟩).run C.P w = .ok (.value (.int .i64 (L.length : Int))) w := by
    simp [execOp, resolve, invoke, builtin, e1, hown.len t type, Result.andThen]
  unfold Oper.wp
  rw [show (C.at W S (hidX C fun b => b = bm) l).P = C.P from rfl, hrun]
  exact hK _ _ (h U E _ w hsup (hst.putD h2 fun s' hs' => by cases hs'; exact .int _ _ hi))
theorem Sat.clearSet {m : Operand} {type : TypeId} {pos : String} {after : Array Edge} (c : Top C) (t : SetTy C.P mt kt et) (hat : AtX C (setT C.P kt et bm L) W S (fun b => b = bm)) (hm : opd C.Γ F m = some (.val (.map (some bm))))
    (h : Sat C Q0 (.reg full rest F M ids k)) :
    Sat (C.at W S (hidX C fun b => b = bm) l) Q0 (.reg full (⟨none, .call ⟨.builtin .clear, ⟨[m]⟩, ⟨[mt]⟩⟩, type, pos, after, none⟩ :: rest) F M ids k) := by
  intro U E a w hsup hst
  refine wpList_plain rfl fun K hK => ?_
  have hown := (hat.here c hst).2
  have hsh := hown.shape
  have e1 : a.eval m = .map (some bm) := by
    have := opd_rep hst.vw hm
    generalize a.eval m = q at this
    cases this
    rfl
  obtain ⟨w', q1, q2, q3⟩ := hown.clear t type
  have hrun : (execOp a.eval ⟨none, .call ⟨.builtin .clear, ⟨[m]⟩, ⟨[mt]⟩⟩, type, pos, after, none⟩).run C.P w = .ok (.value (.tuple #[])) w' := by
    simp [execOp, resolve, invoke, builtin, e1, q1, Result.andThen]
  unfold Oper.wp
  rw [show (C.at W S (hidX C fun b => b = bm) l).P = C.P from rfl, hrun]
  have hlt := hown.lt
  obtain ⟨g1, g2⟩ := hst.touch (junkT bm) c hat rfl q2 (q3.trans hsh.symm) ⟨fun b => Iff.rfl, ⟨_, Array.getElem?_eq_getElem (Nat.lt_of_lt_of_le hlt q2.size)⟩⟩
  exact hK _ _ (Sat.up c g1.over h U E _ _ hsup g2)
theorem DSat.lookSet {F0 : Tr} {M0 : Mem} {ids0 : List Nat} {i : Nat} {hist : List Ent} {d : Option Tmp} {m x : Operand} {type : TypeId} {pos : String} {after : Array Edge} {j : Nat} {want : Bool} {H : Prop} {z : Int} {v : Bool} (c : Top C) (t : SetTy C.P mt kt et) (hat : AtX C (setT C.P kt et bm L) W S (fun b => b = bm))
    (hH : guardH F full j want = some H) (hh : H) (hm : opd C.Γ F m = some (.may H (.val (.map (some bm))))) (hx : opd C.Γ F x = some (.may H (.int .i64 z))) (hv : L.contains z = v) (hp : putD C.N F d (some (.bool v)) some = some F')
    (h : DSat (C.at W S (hidX C fun b => b = bm) l) Q0 k full F0 M0 ids0 (i + 1) (⟨i, d, some (.bool v), none, [], [], false⟩ :: hist) rest F' M ids) :
    DSat (C.at W S (hidX C fun b => b = bm) l) Q0 k full F0 M0 ids0 i hist (⟨d, .lookup mt m x false, type, pos, after, some (j, want)⟩ :: rest) F M ids := by
  subst hv
  intro D
  obtain ⟨F1, h1, h2⟩ := putD_inv hp
  cases h1
  obtain ⟨p1, p2⟩ := putD_get h2
  refine h (D.step (fun ho Q K Fa Ma U E a w q1 q2 _ q3 hst hK => ?_) rfl rfl p2 (fun id => rfl) rfl)
  have hiff := guardH_ok (full := full) hst (guardH_le rfl q1 hH)
  obtain ⟨F2, hF2⟩ := tr_put Fa d (some (.bool (L.contains z)))
  have hown := (hat.here c hst).2
  have hle : OLe C.Γ F Fa (Op.lookup mt m x false).operands.toList := looks_le (F := F) q1 fun _ => rfl
  have e1 : a.eval m = .map (some bm) := by
    have := opd_rep hst.vw (hle m (by simp [Op.operands]) _ hm)
    generalize a.eval m = q at this
    cases this with
    | may1 _ _ _ _ hr => cases hr; rfl
    | may0 _ _ hn => exact absurd hh hn
  obtain ⟨e2, hz⟩ : a.eval x = .int .i64 z ∧ inR .i64 z := by
    have := opd_rep hst.vw (hle x (by simp [Op.operands]) _ hx)
    generalize a.eval x = q at this
    cases this with
    | may1 _ _ _ _ hr => cases hr with | int _ _ hz => exact ⟨rfl, hz⟩
    | may0 _ _ hn => exact absurd hh hn
  have hrun : (execOp a.eval ⟨d, .lookup mt m x false, type, pos, after, some (j, want)⟩).run C.P w = .ok (.value (.bool (L.contains z))) w := by
    have q := hown.look t hz
    simp only [execOp, e1, e2, Sem.run_bind, q, Result.andThen_ok, Sem.run_pure]
  unfold wpOp
  simp only [List.getElem?_toArray, ho]
  have hy := hiff.2 hh
  simp only [Region.wanted, hy, if_true]
  left
  unfold Oper.wp
  rw [show (C.at W S (hidX C fun b => b = bm) l).P = C.P from rfl, hrun]
  exact hK F2 Ma U E _ w hF2 (fun id => rfl) (fun k => by simp) (hst.putG p1 hF2 fun s' hs' => by cases hs'; exact .bool _)
end
end Go.Proofs.YtokaegeediokoaaGreatDoor.V
end
section
namespace Go.Proofs.YtokaegeediokoaaGreatDoor
open Go.RowKit V
set_option maxRecDepth 100000
set_option maxHeartbeats 8000000
set_option linter.unusedSimpArgs false
attribute [local irreducible] V.Sat V.DSat
@[reducible] def named (name : List UInt8) (x : RoleL) : Bool := decide (x.name = name)
@[reducible] def strP (s : List UInt8) : SV := .rop (.g 1 1 fun _ => [.str s]) 0 0
theorem findc_spec {Γ : Glob} (x : RoleL) (name : List UInt8) : Fun Tryz.prog Γ 97 [x.v, strP name] (.bool (named name x)) := by
  obtain ⟨n, ks, nd⟩ := x
  refine Fun.mk 6 Tryz.func97 rfl Tryz.ntmps97 rfl rfl fun T w0 => ?_
  repeat' (first
    | ((with_reducible apply Sat.run (X := X64)); exact rfl; (first | exact True.intro | (exact phi) | skip)) | fail)
  (refine Sat.fin (Sat.end1 rfl rfl rfl True.intro (.refl _ purX) (by first | exact .inl rfl | exact .inr rfl) (fun _ h => h)) ?_; rfl)
theorem idxf_role {Γ : Glob} (p : RoleL → Bool) (f : FuncId) (s : List UInt8) (hcl : callable Tryz.prog f = true) (hp : ∀ x : RoleL, Fun Tryz.prog Γ f [x.v, strP s] (.bool (p x))) (l : List RoleL) : Fun Tryz.prog Γ 96 [.ro (rolesE l), .fn f [strP s]] (.int .i64 (idxL p l 0)) := by
  refine Fun.mkF 6 Tryz.func96 rfl Tryz.ntmps96 rfl rfl fun hf T w0 => ?_
  obtain ⟨⟨hl, _⟩, _⟩ := hf
  dsimp only [EV.len] at hl
  unfold okLen at hl
  repeat' (first
    | ((with_reducible apply Sat.run (X := X64)); exact rfl; (first | exact True.intro | (exact phi) | skip)) | fail)
  apply Sat.loop (α := Nat) (fun x => x ≤ l.length ∧ ∀ i, i < x → p (l.getD i role0) = false) (fun x => l.length - x) 0 (fun x => [(8, .int .i64 (x : Int))]) (fun _ => []) [] [] 0
  · intro x; exact rfl
  · intro x; exact rfl
  · exact rfl
  · exact rfl
  · ((repeat' (first | exact AllP.nil | with_reducible refine AllP.cons ?_ ?_)) <;> first | exact rfl | exact trivial | exact Int.natCast_add_one _ | (intro j _; simp [pureL, pureS, pureE]; done) | exact ⟨rfl, rfl, rfl, rfl⟩)
  · exact ⟨Nat.zero_le _, fun i hi => by omega⟩
  · rintro x ⟨x1, x2⟩
    have hc := hp (l.getD (x : Int).toNat role0)
    repeat' (first
      | ((with_reducible apply Sat.run (X := X64)); exact rfl; (first | exact True.intro | (exact phi) | skip))
      | ((with_reducible apply Sat.cond_p); exact rfl; all_goals (intro h; (try simp only [V.EV.sub, V.EV.len] at h)))
      | ((with_reducible apply Sat.cond); exact rfl; all_goals (intro h; (try simp only [V.EV.sub, V.EV.len, Bool.cond_true_left, Bool.cond_false_right, Bool.or_eq_true, Bool.and_eq_true, Bool.or_eq_false_iff, Bool.and_eq_false_iff, Bool.not_eq_true', Bool.not_eq_false', decide_eq_true_eq, decide_eq_false_iff_not, ne_eq] at h)))
      | ((with_reducible apply Sat.callR (hc)); exact rfl; exact rfl; exact rfl; exact hcl; (exact cnvX); exact rfl) | fail)
    · (refine Sat.fin (Sat.end1 rfl rfl rfl True.intro (.refl _ purX) (by first | exact .inl rfl | exact .inr rfl) (fun _ h => h)) ?_; (exact congrArg (SV.int .i64) ((idxL_at p role0 l 0 x x2 (by omega) h).trans (by simp))))
    · refine Sat.back (x + 1) [] rfl ?_ ?_ ?_
      · ((repeat' (first | exact AllP.nil | with_reducible refine AllP.cons ?_ ?_)) <;> first | exact rfl | exact trivial | exact Int.natCast_add_one _ | (intro j _; simp [pureL, pureS, pureE]; done) | exact ⟨rfl, rfl, rfl, rfl⟩)
      · refine ⟨by omega, fun i hi => ?_⟩
        rcases Nat.lt_succ_iff_lt_or_eq.1 hi with h1 | rfl
        · exact x2 i h1
        · exact h
      · omega
    · (refine Sat.fin (Sat.end1 rfl rfl rfl True.intro (.refl _ purX) (by first | exact .inl rfl | exact .inr rfl) (fun _ h => h)) ?_; (exact congrArg (SV.int .i64) (idxL_none p role0 l 0 fun i hi => x2 i (by omega))))
def fndI (r : RootL) (name : List UInt8) : Int := idxL (named name) r.roles 0
theorem find_none {Γ : Glob} (r : RootL) (name : List UInt8) (h : fndI r name = -1) : Fun Tryz.prog Γ 43 [r.v, .str name] (.tup [role0.v, .bool false]) := by
  have h1 := idxf_role (Γ := Γ) (named name) 97 name (by kernel_rfl) (fun x => findc_spec x name) r.roles
  rw [show idxL (named name) r.roles 0 = -1 from h] at h1
  obtain ⟨g, ex, ks, rs⟩ := r
  refine Fun.mk 6 Tryz.func43 rfl Tryz.ntmps43 rfl rfl fun T w0 => ?_
  repeat' (first
    | ((with_reducible apply Sat.run (X := X64)); exact rfl; (first | exact True.intro | (exact phi) | skip))
    | ((with_reducible apply Sat.cond_t); exact rfl)
    | ((with_reducible apply Sat.callR (h1)); exact rfl; exact rfl; exact rfl; kernel_rfl; (exact cnvX); exact rfl) | fail)
  refine Sat.fin (Sat.end2 rfl rfl rfl rfl True.intro True.intro (.agg _ _ (.cons _ _ _ _ (.refl _ trivial) (.cons _ _ _ _ (.nils (.ints .i64 []) rfl) (.cons _ _ _ _ (.refl _ trivial) .nil)))) (.refl _ trivial) (by first | exact .inl rfl | exact .inr rfl) (fun _ h => h)) rfl
theorem find_some {Γ : Glob} (r : RootL) (name : List UInt8) (i : Nat) (hi : i < r.roles.length) (hm : i ≤ 1000) (h : fndI r name = i) : Fun Tryz.prog Γ 43 [r.v, .str name] (.tup [(r.roles.getD i role0).v, .bool true]) := by
  have h1 := idxf_role (Γ := Γ) (named name) 97 name (by kernel_rfl) (fun x => findc_spec x name) r.roles
  rw [show idxL (named name) r.roles 0 = (i : Int) from h] at h1
  obtain ⟨g, ex, ks, rs⟩ := r
  dsimp only at hi
  refine Fun.mk 6 Tryz.func43 rfl Tryz.ntmps43 rfl rfl fun T w0 => ?_
  repeat' (first
    | ((with_reducible apply Sat.run (X := X64)); exact rfl; (first | exact True.intro | (exact phi) | skip))
    | ((with_reducible apply Sat.cond_f); exact rfl)
    | ((with_reducible apply Sat.callR (h1)); exact rfl; exact rfl; exact rfl; kernel_rfl; (exact cnvX); exact rfl) | fail)
  refine Sat.fin (Sat.end2 rfl rfl rfl rfl True.intro True.intro (.refl _ ⟨trivial, trivial, trivial, trivial⟩) (.refl _ trivial) (by first | exact .inl rfl | exact .inr rfl) (fun _ h => h)) rfl
end Go.Proofs.YtokaegeediokoaaGreatDoor
end
section
namespace Go.Proofs.YtokaegeediokoaaGreatDoor
open Go.RowKit V Go.Maps
set_option maxRecDepth 100000
set_option maxHeartbeats 8000000
set_option linter.unusedSimpArgs false
theorem V.Sat.top {C : Ctx} {Q0 : Exit → Act → World → Prop} {c : Cfg} (h1 : C.pins = []) (h2 : C.hold = []) (h3 : C.wide = false) (h : Top C → Sat C Q0 c) : Sat C Q0 c := by
  have key : ∀ F M U E a w, St C F M U E a w → Top C := fun F M U E a w hst => ⟨h1, h2, h3, hst.hid_ h3⟩
  cases c with
  | reg full rest F M ids k => exact fun U E a w hs hst => h (key _ _ _ _ _ _ hst) U E a w hs hst
  | qreg full rest F M ids k => exact fun U E a w hs hst => h (key _ _ _ _ _ _ hst) U E a w hs hst
  | code cc F M ids k => exact fun U E a w hs hst => h (key _ _ _ _ _ _ hst) U E a w hs hst
  | ext e F M ids k => exact fun U E a w hs hst => h (key _ _ _ _ _ _ hst) U E a w hs hst
@[reducible] def cxg (P : Program) (Γ : Glob) (N : Nat) (T : Nat → Prop) (w0 : World) : Ctx := ⟨P, w0, fun _ => False, T, Γ, N, [], [], false⟩
theorem zero_bool (w : World) : (zeroValue 4).run Tryz.prog w = .ok (.bool false) w := by kernel_rfl
theorem setTy : SetTy Tryz.prog 105 3 4 := ⟨int_keyed Tryz.underlying3, Tryz.underlying105, Tryz.underlying3, Tryz.underlying4, zero_bool⟩
theorem setT_eq {P : Program} {kt et : TypeId} {C : Ctx} {bm : Nat} {L : List Int} {W : World} {S Sm : Nat → Prop} (h : AtX C (setT P kt et bm L) W S Sm) : Sm = fun b => b = bm := funext fun b => propext (h.own.1 b)
def cntF (ks : List (List UInt8)) (K : List Int) (body : List UInt8) (S : List Int) (s : SigL) : List Int :=
  if (K.any fun y => decide (s.key = y)) = true then
    if S.contains s.key = true then S else if ver (ks.getD s.key.toNat []) body s.ch = true then s.key :: S else S
  else S
def cntS (ks : List (List UInt8)) (K : List Int) (body : List UInt8) (l : List SigL) (x : Nat) : List Int := (l.take x).foldl (cntF ks K body) []
theorem cntS_succ (ks : List (List UInt8)) (K : List Int) (body : List UInt8) (l : List SigL) (x : Nat) (h : x < l.length) : cntS ks K body l (x + 1) = cntF ks K body (cntS ks K body l x) (l.getD x sig0) := by
  unfold cntS
  rw [List.take_add_one, List.foldl_append]
  simp [List.getD_eq_getElem?_getD, h]
theorem cntF_len (ks : List (List UInt8)) (K : List Int) (body : List UInt8) (S : List Int) (s : SigL) : (cntF ks K body S s).length ≤ S.length + 1 := by
  unfold cntF
  repeat' split
  all_goals simp
theorem cntS_len (ks : List (List UInt8)) (K : List Int) (body : List UInt8) (l : List SigL) : ∀ x, x ≤ l.length → (cntS ks K body l x).length ≤ x
  | 0, _ => Nat.le_refl _
  | x + 1, h => by
    have h1 := cntS_len ks K body l x (by omega)
    have h2 := cntF_len ks K body (cntS ks K body l x) (l.getD x sig0)
    rw [cntS_succ ks K body l x (by omega)]
    omega
structure CntOk (ks : List (List UInt8)) (K : List Int) (body : List UInt8) (l : List SigL) : Prop where
  body : body.length ≤ 1000000
  keys : ∀ k : Int, (K.any fun y => decide (k = y)) = true → 0 ≤ k ∧ k < ks.length
  sigs : ∀ i, i < l.length → ChOk (l.getD i sig0).ch
  many : l.length ≤ 1000000
attribute [local irreducible] V.Sat V.DSat
theorem count_none (r : RootL) (name body : List UInt8) (l : List SigL) (h : fndI r name = -1) : Fun Tryz.prog Γh 15 [r.v, .str name, .ro (.u8 body), .ro (sigsE l)] (.tup [.int .i64 0, .int .i64 161]) := by
  have h1 := find_none (Γ := Γh) r name h
  obtain ⟨g, ex, ks, rs⟩ := r
  refine Fun.mk 6 Tryz.func15 rfl Tryz.ntmps15 rfl rfl fun T w0 => ?_
  repeat' (first
    | ((with_reducible apply Sat.run (X := X64)); exact rfl; (first | exact True.intro | (exact phi) | skip))
    | ((with_reducible apply Sat.cond_t); exact rfl)
    | ((with_reducible apply Sat.call (h1)); exact rfl; exact rfl; kernel_rfl; (exact cnvX); exact rfl) | fail)
  (refine Sat.fin (Sat.end2 rfl rfl rfl rfl True.intro True.intro (.refl _ purX) (.refl _ purX) (by first | exact .inl rfl | exact .inr rfl) (fun _ h => h)) ?_; rfl)
theorem count_some (r : RootL) (name body : List UInt8) (l : List SigL) (i : Nat) (hi : i < r.roles.length) (hm : i ≤ 1000) (h : fndI r name = i) (hok : CntOk r.keys (r.roles.getD i role0).keys body l) :
    Fun Tryz.prog Γh 15 [r.v, .str name, .ro (.u8 body), .ro (sigsE l)] (.tup [.int .i64 ((cntS r.keys (r.roles.getD i role0).keys body l l.length).length : Int), .int .i64 0]) := by
  have h1 := find_some (Γ := Γh) r name i hi hm h
  obtain ⟨g, ex, ks, rs⟩ := r
  dsimp only at hok h1 ⊢
  generalize rs.getD i role0 = ro at hok h1 ⊢
  obtain ⟨rn, K, nd⟩ := ro
  dsimp only at hok h1 ⊢
  clear hi h hm
  refine Fun.mk 6 Tryz.func15 rfl Tryz.ntmps15 rfl rfl fun T w0 => ?_
  refine Sat.top rfl rfl rfl fun top => ?_
  repeat' (first
    | ((with_reducible apply Sat.run (X := X64)); exact rfl; (first | exact True.intro | (exact phi) | skip))
    | ((with_reducible apply Sat.cond_f); exact rfl)
    | ((with_reducible apply Sat.call (h1)); exact rfl; exact rfl; kernel_rfl; (exact cnvX); exact rfl) | fail)
  refine Sat.makeSet (C := cxg Tryz.prog Γh 63 T w0) top 3 4 (fun bm => rfl) fun bm W S hat => ?_
  repeat' (first
    | ((with_reducible apply Sat.run (X := X64)); exact rfl; (first | exact True.intro | (exact phi) | skip)) | fail)
  refine Sat.loopX (C := cxg Tryz.prog Γh 63 T w0) (α := Nat) (fun x => setT Tryz.prog 3 4 bm (cntS ks K body l x)) (fun x => x ≤ l.length) (fun x => l.length - x) 0 (fun x => [(27, .int .i64 (x : Int))]) (fun _ => []) [] [] 0 (fun x => rfl) (fun x => rfl) rfl rfl ?_ (Nat.zero_le _) hat ?_
  · ((repeat' (first | exact AllP.nil | with_reducible refine AllP.cons ?_ ?_)) <;> first | exact rfl | exact trivial | exact Int.natCast_add_one _ | (intro j _; simp [pureL, pureS, pureE]; done) | exact ⟨rfl, rfl, rfl, rfl⟩)
  intro x W S Sm hx hat
  obtain rfl := setT_eq hat
  have hcl := cntS_len ks K body l x hx
  have hmany := hok.many
  by_cases hx2 : x < l.length
  · have hc : (x : Int) < (l.length : Int) := by omega
    have hch := hok.sigs x hx2
    have es := cntS_succ ks K body l x hx2
    have hkey := hok.keys (l.getD x sig0).key
    have hcon : Fun Tryz.prog Γh 44 [.ro (.ints .i64 K), .int .i64 (l.getD x sig0).key] (.bool (K.any fun y => decide ((l.getD x sig0).key = y))) := (contains_int (l.getD x sig0).key K).weak
    have hver := pverify_spec (ks.getD (l.getD x sig0).key.toNat []) body hok.body (l.getD x sig0).ch hch
    unfold cntF at es
    generalize hLL : cntS ks K body l x = LL at es hat hcl
    cases hB : K.any fun y => decide ((l.getD x sig0).key = y) with
    | false =>
      rw [hB] at es hcon
      simp only [Bool.false_eq_true, if_false] at es
      repeat' (first
        | ((with_reducible apply Sat.run (X := X64)); exact rfl; (first | exact True.intro | (exact phi) | skip))
        | ((with_reducible apply Sat.drawn); kernel_rfl)
        | ((with_reducible apply DSat.run (X := X64)); exact rfl; (first | exact True.intro | (exact phi) | skip))
        | ((with_reducible apply DSat.fin); kernel_rfl)
        | ((with_reducible apply Sat.cond_f); exact rfl)
        | ((with_reducible apply Sat.cond_pt); exact rfl; (try dsimp only [V.EV.sub, V.EV.len]); first | assumption | omega)
        | ((with_reducible apply DSat.callR (hcon)); exact rfl; exact rfl; exact rfl; kernel_rfl; (exact cnvX); exact rfl)
        | ((with_reducible apply DSat.goffM ((.bool false))); exact rfl; (first | (decide +kernel) | assumption); exact rfl) | fail)
      refine Sat.backX (C := cxg Tryz.prog Γh 63 T w0) (Ow := fun x => setT Tryz.prog 3 4 bm (cntS ks K body l x)) (x + 1) [] rfl ?_ (by rw [es]; exact hat) (by omega) (by omega)
      ((repeat' (first | exact AllP.nil | with_reducible refine AllP.cons ?_ ?_)) <;> first | exact rfl | exact trivial | exact Int.natCast_add_one _ | (intro j _; simp [pureL, pureS, pureE]; done) | exact ⟨rfl, rfl, rfl, rfl⟩)
    | true =>
      rw [hB] at es hcon
      simp only [if_true] at es
      cases hS : LL.contains (l.getD x sig0).key with
      | true =>
        rw [hS] at es
        simp only [if_true] at es
        repeat' (first
          | ((with_reducible apply Sat.run (X := X64)); exact rfl; (first | exact True.intro | (exact phi) | skip))
          | ((with_reducible apply Sat.drawn); kernel_rfl)
          | ((with_reducible apply DSat.run (X := X64)); exact rfl; (first | exact True.intro | (exact phi) | skip))
          | ((with_reducible apply DSat.fin); kernel_rfl)
          | ((with_reducible apply Sat.cond_f); exact rfl)
          | ((with_reducible apply Sat.cond_pt); exact rfl; (try dsimp only [V.EV.sub, V.EV.len]); first | assumption | omega)
          | ((with_reducible apply DSat.callR (hcon)); exact rfl; exact rfl; exact rfl; kernel_rfl; (exact cnvX); exact rfl)
          | ((with_reducible apply DSat.lookSet top setTy hat); exact rfl; exact rfl; exact rfl; exact rfl; exact hS; exact rfl)
          | ((with_reducible apply DSat.goffM ((.bool false))); exact rfl; (first | (decide +kernel) | assumption); exact rfl) | fail)
        refine Sat.backX (C := cxg Tryz.prog Γh 63 T w0) (Ow := fun x => setT Tryz.prog 3 4 bm (cntS ks K body l x)) (x + 1) [] rfl ?_ (by rw [es]; exact hat) (by omega) (by omega)
        ((repeat' (first | exact AllP.nil | with_reducible refine AllP.cons ?_ ?_)) <;> first | exact rfl | exact trivial | exact Int.natCast_add_one _ | (intro j _; simp [pureL, pureS, pureE]; done) | exact ⟨rfl, rfl, rfl, rfl⟩)
      | false =>
        rw [hS] at es
        simp only [Bool.false_eq_true, if_false] at es
        have hkl := hkey hB
        cases hV : ver (ks.getD (l.getD x sig0).key.toNat []) body (l.getD x sig0).ch with
        | true =>
          rw [hV] at es hver
          simp only [if_true] at es
          repeat' (first
            | ((with_reducible apply Sat.run (X := X64)); exact rfl; (first | exact True.intro | (exact phi) | skip))
            | ((with_reducible apply Sat.drawn); kernel_rfl)
            | ((with_reducible apply DSat.run (X := X64)); exact rfl; (first | exact True.intro | (exact phi) | skip))
            | ((with_reducible apply DSat.fin); kernel_rfl)
            | ((with_reducible apply Sat.cond_t); exact rfl)
            | ((with_reducible apply Sat.cond_pt); exact rfl; (try dsimp only [V.EV.sub, V.EV.len]); first | assumption | omega)
            | ((with_reducible apply DSat.callR (hcon)); exact rfl; exact rfl; exact rfl; kernel_rfl; (exact cnvX); exact rfl)
            | ((with_reducible apply DSat.lookSet top setTy hat); exact rfl; exact rfl; exact rfl; exact rfl; exact hS; exact rfl)
            | ((with_reducible apply DSat.callG1 (hver)); exact rfl; exact rfl; exact rfl; exact rfl; kernel_rfl; (intro hG; (exact cnvX)); exact rfl) | fail)
          refine Sat.putSet (C := cxg Tryz.prog Γh 63 T w0) top setTy hat rfl rfl hS (Nat.lt_of_le_of_lt (Nat.le_trans hcl (Nat.le_trans hx hmany)) (by decide)) fun W S hat => ?_
          repeat' (first
            | ((with_reducible apply Sat.run (X := X64)); exact rfl; (first | exact True.intro | (exact phi) | skip)) | fail)
          refine Sat.backX (C := cxg Tryz.prog Γh 63 T w0) (Ow := fun x => setT Tryz.prog 3 4 bm (cntS ks K body l x)) (x + 1) [] rfl ?_ (by rw [es]; exact hat) (by omega) (by omega)
          ((repeat' (first | exact AllP.nil | with_reducible refine AllP.cons ?_ ?_)) <;> first | exact rfl | exact trivial | exact Int.natCast_add_one _ | (intro j _; simp [pureL, pureS, pureE]; done) | exact ⟨rfl, rfl, rfl, rfl⟩)
        | false =>
          rw [hV] at es hver
          simp only [Bool.false_eq_true, if_false] at es
          repeat' (first
            | ((with_reducible apply Sat.run (X := X64)); exact rfl; (first | exact True.intro | (exact phi) | skip))
            | ((with_reducible apply Sat.drawn); kernel_rfl)
            | ((with_reducible apply DSat.run (X := X64)); exact rfl; (first | exact True.intro | (exact phi) | skip))
            | ((with_reducible apply DSat.fin); kernel_rfl)
            | ((with_reducible apply Sat.cond_f); exact rfl)
            | ((with_reducible apply Sat.cond_pt); exact rfl; (try dsimp only [V.EV.sub, V.EV.len]); first | assumption | omega)
            | ((with_reducible apply DSat.callR (hcon)); exact rfl; exact rfl; exact rfl; kernel_rfl; (exact cnvX); exact rfl)
            | ((with_reducible apply DSat.lookSet top setTy hat); exact rfl; exact rfl; exact rfl; exact rfl; exact hS; exact rfl)
            | ((with_reducible apply DSat.callG1 (hver)); exact rfl; exact rfl; exact rfl; exact rfl; kernel_rfl; (intro hG; (exact cnvX)); exact rfl) | fail)
          refine Sat.backX (C := cxg Tryz.prog Γh 63 T w0) (Ow := fun x => setT Tryz.prog 3 4 bm (cntS ks K body l x)) (x + 1) [] rfl ?_ (by rw [es]; exact hat) (by omega) (by omega)
          ((repeat' (first | exact AllP.nil | with_reducible refine AllP.cons ?_ ?_)) <;> first | exact rfl | exact trivial | exact Int.natCast_add_one _ | (intro j _; simp [pureL, pureS, pureE]; done) | exact ⟨rfl, rfl, rfl, rfl⟩)
  · obtain rfl : x = l.length := by omega
    generalize cntS ks K body l l.length = LL at hat hcl ⊢
    repeat' (first
      | ((with_reducible apply Sat.run (X := X64)); exact rfl; (first | exact True.intro | (exact phi) | skip))
      | ((with_reducible apply Sat.cond_pf); exact rfl; (try dsimp only [V.EV.sub, V.EV.len]); first | assumption | omega) | fail)
    refine Sat.lenSet (C := cxg Tryz.prog Γh 63 T w0) top setTy hat rfl (inR_i64 (by omega) (by omega)) rfl ?_
    repeat' (first
      | ((with_reducible apply Sat.run (X := X64)); exact rfl; (first | exact True.intro | (exact phi) | skip)) | fail)
    refine Sat.clearSet (C := cxg Tryz.prog Γh 63 T w0) top setTy hat rfl ?_
    repeat' (first
      | ((with_reducible apply Sat.run (X := X64)); exact rfl; (first | exact True.intro | (exact phi) | skip)) | fail)
    (refine Sat.fin (Sat.end2 rfl rfl rfl rfl True.intro True.intro (.refl _ purX) (.refl _ purX) (by first | exact .inl rfl | exact .inr rfl) (fun _ h => h)) ?_; rfl)
end Go.Proofs.YtokaegeediokoaaGreatDoor
end
section
namespace Go.Proofs.YtokaegeediokoaaGreatDoor.V
open Go.RowKit Go.Sort
def GrowF (P : Program) (f : FuncId) (T : TypeId) : Prop :=
  ∀ w n, n ≤ 1000000 → Calls P f #[.slice none 0 0, .int .i64 ((n : Nat) : Int)] w fun e w' => Below w.heap.size w w' ∧
    (e = .returned (.slice none 0 0) ∨ ∃ (b c : Nat) (cs : List Value), e = .returned (.slice (some ⟨b, 0, none⟩) 0 c) ∧ w.heap.size ≤ b ∧ w'.heap[b]? = some (.cells cs.toArray T (0, 0)) ∧ c ≤ cs.length ∧ okLen c)
def RowF (P : Program) (f : FuncId) (l l2 : List Int) (back : Bool) : Prop :=
  (l = [] → ∀ w (q : Option Addr) c, (∀ x, q = some x → x.spot = none ∧ x.block < w.heap.size) → Calls P f #[.slice q 0 c] w fun e w' => e = .returned (if back then .slice q 0 c else .tuple #[]) ∧ Below w.heap.size w w') ∧
  ∀ (w : World) (b c : Nat) (cs : List Value) (t : TypeId), w.heap[b]? = some (.cells cs.toArray t (0, 0)) → l.length ≤ c → c ≤ cs.length → okLen c → (∀ i (_ : i < l.length), cs[i]? = some (.int .i64 (l.getD i 0))) →
    Calls P f #[.slice (some ⟨b, 0, none⟩) l.length c] w fun e w' => e = .returned (if back then .slice (some ⟨b, 0, none⟩) l2.length c else .tuple #[]) ∧ w.grownBy w' (some b) ∧
      ∃ cs' : List Value, w'.heap[b]? = some (.cells cs'.toArray t (0, 0)) ∧ cs'.length = cs.length ∧ ∀ i (_ : i < l2.length), cs'[i]? = some (.int .i64 (l2.getD i 0))
section
variable {C : Ctx} {Q0 : Exit → Act → World → Prop} {F F' : Tr} {M M' : Mem} {ids : List Nat} {k : List Kont} {U : Nat → Prop} {E : Env} {a : Act} {w w' : World} {full rest : List Oper} {f : FuncId}
theorem Sat.growNil {nx : Nat} {d : Option Tmp} {x : Operand} {xs : List Operand} {ats : Array TypeId} {type T : TypeId} {pos : String} {after : Array Edge} {z : Int} (hg : GrowF C.P f T) (hx : argsF C.Γ F x xs = some (f, [.nils, .int .i64 z])) (hc : callable C.P f = true) (hz : 0 ≤ z ∧ z ≤ 1000000) (hp : putD C.N F d (some (.row nx 0 1 0 0)) some = some F')
    (h : Sat C Q0 (.reg full rest F' ((nx, .row T (.ints .i64 [])) :: M) ids k)) :
    Sat C Q0 (.reg full (⟨d, .call ⟨.value x, ⟨xs⟩, ats⟩, type, pos, after, none⟩ :: rest) F M (nx :: ids) k) := by
  intro U E a w hsup hst
  obtain ⟨hU, hsup'⟩ := hsup
  obtain ⟨F1, h1, h2⟩ := putD_inv hp
  cases h1
  refine wpList_plain rfl fun K hK => ?_
  unfold Oper.wp
  obtain ⟨vs, ht, hex⟩ := argsF_ok hst.vw hx
  rw [hex, run_callFunc_go hc]
  obtain ⟨n, rfl⟩ : ∃ n : Nat, z = (n : Int) := ⟨z.toNat, by omega⟩
  cases ht with
  | cons _ v0 _ vs hr ht =>
  cases hr
  cases ht with
  | cons _ v1 _ vs hr ht =>
  cases hr
  cases ht
  refine (hg w n (by omega)).mono ?_
  rintro e w' ⟨hb, he⟩
  have hmine : ∀ y, V.mine M E y → y < w.heap.size := fun y ⟨j, B, q1, q2⟩ => (hst.mem.at q1 q2).1
  have fin : ∀ (b : Option Nat) (v : Value), (∀ x, b = some x → x < w'.heap.size ∧ w.heap.size ≤ x) → (∀ x, b = some x → ∃ (c : Nat) (cs : List Value), v = .slice (some ⟨x, 0, none⟩) 0 c ∧ w'.heap[x]? = some (.cells cs.toArray T (0, 0)) ∧ c ≤ cs.length ∧ okLen c) → (b = none → v = .slice none 0 0) → St C F' ((nx, .row T (.ints .i64 [])) :: M) (V.rest U nx) (envWith E nx b) (a.put d v) w' := fun b v q1 q2 q3 => by
    have h3 := hst.mov (o := none) (b := b) (B := .row T (.ints .i64 [])) hU ((Chg.of_below hb).weak (T' := V.mine M E) fun _ h => h) hb.os hb.tape hb.output (fun x hx => ⟨(q1 x hx).1, .inl (q1 x hx).2⟩) (fun j B1 y hf hE => hb.block y (hmine y ⟨j, B1, hf, hE⟩)) (fun x hx => by
      obtain ⟨c, cs, r1, r2, r3, r4⟩ := q2 x hx
      exact ⟨cs, fun _ => [], r2, by show 0 * 1 ≤ cs.length; omega, fun i hi => absurd hi (Nat.not_lt_zero _), fun i j v hi => absurd hi (Nat.not_lt_zero _), fun i hi => absurd hi (Nat.not_lt_zero _)⟩) (fun _ => ⟨T, _, rfl, rfl⟩)
    refine St.putD h3 h2 fun s' hs' => ?_
    cases hs'
    cases b with
    | none => rw [q3 rfl]; exact .row0 _ 0 1 0 0 (by simp [envWith]) rfl
    | some x =>
      obtain ⟨c, cs, r1, r2, r3, r4⟩ := q2 x rfl
      rw [r1]
      exact .row _ 0 1 0 0 x 0 c cs.length T (by simp [envWith]) (by simp [World.shape?, r2]) (fun _ => ⟨rfl, by omega⟩) (Nat.zero_le _) r4
  rcases he with rfl | ⟨b, c, cs, rfl, r1, r2, r3, r4⟩
  · exact hK _ _ (h _ _ _ w' hsup' (fin none _ (fun x hx => by cases hx) (fun x hx => by cases hx) fun _ => rfl))
  · refine hK _ _ (h _ _ _ w' hsup' (fin (some b) _ (fun x hx => ?_) (fun x hx => ?_) fun hx => by cases hx))
    · cases hx
      refine ⟨?_, r1⟩
      rcases Nat.lt_or_ge b w'.heap.size with q | q
      · exact q
      · rw [Array.getElem?_eq_none q] at r2; cases r2
    · cases hx
      exact ⟨c, cs, rfl, r2, r3, r4⟩
theorem St.rowTo {i : Nat} {t : TypeId} {e e' : EV} (hst : St C F M U E a w) (hf : find M i = some (.row t e)) (hM : upd M i (.row t e') = some M') (hb : ∀ b, E i = some (some b) → w.grownBy w' (some b) ∧ w'.shape? b = w.shape? b ∧ BOk E (trk C.T0 M E) w' b (.row t e')) (hn : E i = some none → w' = w ∧ e'.len = 0) : St C F M' U E a w' := by
  have hfind := find_upd hM
  have htr : ∀ k, trk C.T0 M' E k ↔ trk C.T0 M E k := fun k => by
    constructor
    · rintro (⟨id, B, q1, q2⟩ | h0)
      · rw [hfind] at q1
        split at q1
        · rename_i e; subst e; exact .inl ⟨id, _, hf, q2⟩
        · exact .inl ⟨id, B, q1, q2⟩
      · exact .inr h0
    · rintro (⟨id, B, q1, q2⟩ | h0)
      · by_cases e : id = i
        · subst e; exact .inl ⟨id, .row t e', by rw [hfind, if_pos rfl], q2⟩
        · exact .inl ⟨id, B, by rw [hfind, if_neg e]; exact q1, q2⟩
      · exact .inr h0
  have hteq : trk C.T0 M' E = trk C.T0 M E := funext fun k => propext (htr k)
  have hs : ∀ j, (find M' j).isSome = true → (find M j).isSome = true := fun j hj => by
    rw [hfind] at hj
    split at hj
    · rename_i e; subst e; rw [hf]; rfl
    · exact hj
  rcases hst.mem.blk i _ hf with ⟨b, hE, hlt, hB⟩ | ⟨hE, _⟩
  · obtain ⟨hg, hsh, hB'⟩ := hb b hE
    have hmine : V.mine M E b := ⟨i, _, hf, hE⟩
    have hchg : Chg (V.mine M E) w w' := ⟨hg.size, fun k hk hnm => hg.block k hk fun q => hnm (Option.some.inj q ▸ hmine), fun k hk => by
      by_cases q : k = b
      · subst q; exact hsh
      · unfold World.shape?; rw [hg.block k hk fun q2 => q (Option.some.inj q2)]⟩
    have hchg2 := hchg.weak (T' := trk C.T0 M E) fun _ => .inl
    refine hst.go (fun _ _ h => h) (fun k _ hk => (htr k).1 hk) hchg hg.os hg.tape hg.output ⟨fun id B hBd => ?_, fun id id' b' q1 q2 q3 q4 => hst.mem.inj id id' b' (hs id q1) (hs id' q2) q3 q4⟩ (fun id b' q1 q2 => hst.own id b' (hs id q1) q2) hst.fresh
    rw [hfind] at hBd
    split at hBd
    · rename_i q
      subst q
      cases hBd
      exact .inl ⟨b, hE, Nat.lt_of_lt_of_le hlt hg.size, by rw [hteq]; exact hB'⟩
    · rename_i q
      rcases hst.mem.blk id B hBd with ⟨b', q1, q2, q3⟩ | q1
      · refine .inl ⟨b', q1, Nat.lt_of_lt_of_le q2 hg.size, ?_⟩
        have hne : b' ≠ b := fun e2 => by
          subst e2
          exact q (hst.mem.inj id i b' (by rw [hBd]; rfl) (by rw [hf]; rfl) q1 hE)
        rw [hteq]
        exact q3.mono (fun _ _ h => h) (fun _ _ h => h) hchg2 (hg.block b' q2 fun q2 => hne (Option.some.inj q2))
      · exact .inr q1
  · obtain ⟨rfl, h0⟩ := hn hE
    refine hst.go (fun _ _ h => h) (fun k _ hk => (htr k).1 hk) (Chg.refl _ _) rfl rfl rfl ⟨fun id B hBd => ?_, fun id id' b' q1 q2 q3 q4 => hst.mem.inj id id' b' (hs id q1) (hs id' q2) q3 q4⟩ (fun id b' q1 q2 => hst.own id b' (hs id q1) q2) hst.fresh
    rw [hfind] at hBd
    split at hBd
    · rename_i q
      subst q
      cases hBd
      exact .inr ⟨hE, t, e', rfl, h0⟩
    · rcases hst.mem.blk id B hBd with ⟨b', q1, q2, q3⟩ | q1
      · exact .inl ⟨b', q1, q2, by rw [hteq]; exact q3⟩
      · exact .inr q1
theorem bok_ints {T : Nat → Prop} {b : Nat} {t : TypeId} {l : List Int} (h : BOk E T w b (.row t (.ints .i64 l))) : ∃ cs : List Value, w.heap[b]? = some (.cells cs.toArray t (0, 0)) ∧ l.length ≤ cs.length ∧ ∀ i (_ : i < l.length), cs[i]? = some (.int .i64 (l.getD i 0)) ∧ inR .i64 (l.getD i 0) := by
  obtain ⟨cs, c, h1, h2, h3, h4, h5⟩ := h
  have h2 : l.length * 1 ≤ cs.length := h2
  refine ⟨cs, h1, by omega, fun i hi => ?_⟩
  have hI := h5 i hi
  have h4i := h4 i 0
  simp only [EV.items] at hI
  generalize c i = ci at hI h4i
  cases hI with
  | one _ v _ _ p0 pr pI =>
    cases pr with
    | int _ _ hin =>
      have := h4i _ hi rfl
      have e : i * (EV.ints IntKind.i64 l).sz + 0 = i := by show i * 1 + 0 = i; omega
      rw [e] at this
      exact ⟨this, hin⟩
theorem ints_bok {T : Nat → Prop} {b : Nat} {t : TypeId} {l : List Int} {cs : List Value} (h1 : w.heap[b]? = some (.cells cs.toArray t (0, 0))) (h2 : l.length ≤ cs.length) (h3 : ∀ i (_ : i < l.length), cs[i]? = some (.int .i64 (l.getD i 0))) (h4 : ∀ i (_ : i < l.length), inR .i64 (l.getD i 0)) : BOk E T w b (.row t (.ints .i64 l)) := by
  refine ⟨cs, fun i => [.int .i64 (l.getD i 0)], h1, by show l.length * 1 ≤ _; omega, fun i hi => rfl, fun i j v hi hj => ?_, fun i hi => .one _ _ _ _ rfl (.int _ _ (h4 i hi)) .nil⟩
  cases j with
  | succ j => simp at hj
  | zero =>
    cases hj
    have e : i * (EV.ints IntKind.i64 l).sz + 0 = i := by show i * 1 + 0 = i; omega
    rw [e]
    exact h3 i hi
theorem Sat.rowCall {i n0 : Nat} {t : TypeId} {l l2 : List Int} {back : Bool} {d : Option Tmp} {x : Operand} {xs : List Operand} {ats : Array TypeId} {type : TypeId} {pos : String} {after : Array Edge} (hspec : RowF C.P f l l2 back) (hx : argsF C.Γ F x xs = some (f, [.row i 0 1 0 n0])) (hn0 : n0 = l.length) (hc : callable C.P f = true) (hf : find M i = some (.row t (.ints .i64 l)))
    (hM : upd M i (.row t (.ints .i64 l2)) = some M') (hle : l2.length ≤ l.length) (hin : ∀ y ∈ l2, y ∈ l) (hp : putD C.N F d (if back then some (.row i 0 1 0 l2.length) else some (.tup [])) some = some F')
    (h : Sat C Q0 (.reg full rest F' M' ids k)) :
    Sat C Q0 (.reg full (⟨d, .call ⟨.value x, ⟨xs⟩, ats⟩, type, pos, after, none⟩ :: rest) F M ids k) := by
  subst hn0
  intro U E a w hsup hst
  obtain ⟨F1, h1, h2⟩ := putD_inv hp
  cases h1
  refine wpList_plain rfl fun K hK => ?_
  unfold Oper.wp
  obtain ⟨vs, ht, hex⟩ := argsF_ok hst.vw hx
  rw [hex, run_callFunc_go hc]
  cases ht with
  | cons _ v0 _ vs hr ht =>
  cases ht
  rcases Nat.eq_zero_or_pos l.length with hl0 | hlp
  · have hl1 : l = [] := List.eq_nil_of_length_eq_zero hl0
    have hl2 : l2 = [] := List.eq_nil_of_length_eq_zero (by omega)
    subst hl1 hl2
    have hMM : ∀ w', St C F M U E a w' → St C F M' U E a w' := fun w' h' => h'.rowTo hf hM (fun b hE => ⟨⟨rfl, rfl, rfl, Nat.le_refl _, fun _ _ _ => rfl⟩, rfl, (h'.mem.at hf hE).2⟩) fun _ => ⟨rfl, rfl⟩
    have hrep : ∃ q c, v0 = .slice q 0 c ∧ ∀ x, q = some x → x.spot = none ∧ x.block < w.heap.size := by
      cases hr with
      | row0 _ _ _ _ _ hE hl => exact ⟨none, 0, rfl, fun x hx => by cases hx⟩
      | row _ _ _ _ _ b o c n t' hE hs ho hl ok => exact ⟨some _, c, rfl, fun x hx => by cases hx; exact ⟨rfl, (hst.mem.at hf hE).1⟩⟩
    obtain ⟨q, c, rfl, hq⟩ := hrep
    refine (hspec.1 rfl w q c hq).mono ?_
    rintro e w' ⟨rfl, hb⟩
    refine hK _ _ (h U E _ w' hsup (St.putD (hMM w' (hst.below hb)) h2 fun s' hs' => ?_))
    have hr2 : Rep E (trk C.T0 M' E) w' (.row i 0 1 0 0) (.slice q 0 c) := by
      have := hr
      cases this with
      | row0 _ _ _ _ _ hE hl => exact .row0 _ 0 1 0 0 hE rfl
      | row _ _ _ _ _ b o c n t' hE hs ho hl ok => exact .row _ 0 1 0 0 b o c n t' hE (by unfold World.shape? at hs ⊢; rw [hb.block b (hst.mem.at hf hE).1]; exact hs) ho hl ok
    cases back with
    | true => cases hs'; exact hr2
    | false => cases hs'; exact .tup _ [] .nil
  · cases hr with
    | row0 _ _ _ _ _ hE hl => omega
    | row _ _ _ _ _ b o c n t' hE hs ho hl ok =>
      obtain ⟨hlt, hB⟩ := hst.mem.at hf hE
      obtain ⟨cs, g1, g2, g3⟩ := bok_ints hB
      have hn : n = cs.length ∧ t' = t := by
        simp only [World.shape?, g1] at hs
        cases hs
        exact ⟨by simp, rfl⟩
      obtain ⟨rfl, rfl⟩ := hn
      have ho' := ho (by omega)
      obtain rfl : o = 0 := by omega
      refine (hspec.2 w b c cs t' g1 hl (by omega) ok fun j hj => (g3 j hj).1).mono ?_
      rintro e w' ⟨rfl, k1, cs', k2, k3, k4⟩
      have hsh : w'.shape? b = w.shape? b := by simp [World.shape?, g1, k2, k3]
      have hst' := hst.rowTo (w' := w') hf hM (fun b' hb' => by
        rw [hE] at hb'
        cases hb'
        refine ⟨k1, hsh, ints_bok k2 (by omega) k4 fun j hj => ?_⟩
        have hm : l2.getD j 0 ∈ l := hin _ (by rw [List.getD_eq_getElem?_getD, List.getElem?_eq_getElem hj]; exact List.getElem_mem _)
        obtain ⟨j2, hj2, he2⟩ := List.getElem_of_mem hm
        have := (g3 j2 hj2).2
        rw [List.getD_eq_getElem?_getD, List.getElem?_eq_getElem hj2, Option.getD_some, he2] at this
        exact this) fun hb' => by rw [hE] at hb'; cases hb'
      refine hK _ _ (h U E _ w' hsup (St.putD hst' h2 fun s' hs' => ?_))
      cases back with
      | true => cases hs'; exact .row _ 0 1 0 _ b 0 c _ t' hE (hsh.trans hs) (fun _ => ⟨rfl, by omega⟩) (by omega) ok
      | false => cases hs'; exact .tup _ [] .nil
end
end Go.Proofs.YtokaegeediokoaaGreatDoor.V
end
