/-
  Joined texts: SZf: Settings: the law Refuses.
  Z8: The law inlaylaw23.SettingsRefuses returns true for every input, and each argument reads behind the call as it read before: with a rule that is not right at any place, or more than 8 rules, ErrRule is returned; wrong settings and versions are refused before; more than 16 values are refused in the end.
  Conditions: the package variables that the row lists hold, when the call begins, what the program's text lays there (the card ties them); no other narrowing.
-/
import Derived.Test.YtpbgihhfcdggkaaGreatDoorQE
import Derived.Test.YtpbgihhfcdggkaaGreatDoorQC
import Derived.SevenTiedAt
section
namespace Go.Proofs.YtpbgihhfcdggkaaGreatDoor
open Go.RowKit V
set_option maxRecDepth 100000
set_option maxHeartbeats 4000000
set_option linter.unusedSimpArgs false
set_option linter.unusedVariables false
theorem slotsOff {C : Ctx} {Q0 : Exit → Act → World → Prop} {full rest : List Oper} {F G : Tr} {M : Mem} {ids : List Nat} {k : List Kont} (l : List Nat) (hG : killF l F some = some G) (h : Sat C Q0 (.reg full rest G M ids k)) : Sat C Q0 (.reg full rest F M ids k) := fun U E a w hsup hst => by
  obtain ⟨F1, h1, h2⟩ := killF_inv hG
  cases h1
  exact h U E a w hsup ⟨hst.defers, hst.size, fun t s hs => hst.slots t s (h2 t s hs), hst.mem, hst.own, hst.fresh, hst.kp, hst.hid, hst.glob, hst.pin, hst.held⟩
attribute [local irreducible] V.Sat V.DSat V.SatP V.ASat V.AOp
def badR (w : Int) : RuleL := ⟨([0, 4, 1, 1, 2, 2, 3, 3] : List Int).getD (0 + (w.tmod 8).toNat) 0, ([[], [97], [97], [97], [97], [97], [97], [45]] : List Nm).getD (0 + (w.tmod 8).toNat) [], ([[], [], [], [97], [], [98], [], []] : List Nm).getD (0 + (w.tmod 8).toNat) [], ([[], [], [], [], [10], [], [49], []] : List Nm).getD (0 + (w.tmod 8).toNat) []⟩
theorem bad_all : ∀ i, i < 8 → rightR ⟨([0, 4, 1, 1, 2, 2, 3, 3] : List Int).getD (0 + i) 0, ([[], [97], [97], [97], [97], [97], [97], [45]] : List Nm).getD (0 + i) [], ([[], [], [], [97], [], [98], [], []] : List Nm).getD (0 + i) [], ([[], [], [], [], [10], [], [49], []] : List Nm).getD (0 + i) []⟩ = false := by decide
theorem bad_no (w : Int) (h : 0 ≤ w) : rightR (badR w) = false := by
  obtain ⟨h1, h2⟩ := tm w h 8 (by decide)
  exact bad_all _ (by omega)
def spL (R : List RuleL) (k : Nat) (v : RuleL) : List RuleL := R.take k ++ (v :: R.drop k)
theorem sp_len (R : List RuleL) (k : Nat) (v : RuleL) (hk : k ≤ R.length) : (spL R k v).length = 0 + (k - 0) + 1 + (R.length - k) := by
  unfold spL
  rw [List.length_append, List.length_take, List.length_cons, List.length_drop]
  omega
theorem sp_E (R : List RuleL) (k : Nat) (v : RuleL) (hk : k ≤ R.length) : ruleE (spL R k v) = .g (0 + (k - 0) + 1 + (R.length - k)) 4 fun i => ruleP ((spL R k v).getD i r00) := by
  unfold ruleE
  rw [sp_len R k v hk]
theorem sp_row (R : List RuleL) (k : Nat) (v : RuleL) (hk : k ≤ R.length) : ∀ i, i < 0 + (k - 0) + 1 + (R.length - k) → ruleP ((spL R k v).getD i r00) = if i < 0 + (k - 0) + 1 then (if i < 0 + (k - 0) then (if i < 0 then nthL [] i else ruleP (R.getD (0 + (i - 0)) r00)) else nthL [ruleP v] (0 + (i - (0 + (k - 0))))) else ruleP (R.getD (k + (i - (0 + (k - 0) + 1))) r00) := by
  intro i hi
  have hl : (R.take k).length = k := by rw [List.length_take]; omega
  unfold spL
  rw [List.getD_eq_getElem?_getD]
  by_cases h1 : i < k
  · rw [if_pos (by omega), if_pos (by omega), if_neg (by omega), List.getElem?_append_left (by omega), List.getElem?_take, if_pos h1, Nat.zero_add, Nat.sub_zero, List.getD_eq_getElem?_getD]
  · rw [List.getElem?_append_right (by omega), hl]
    by_cases h2 : i = k
    · subst h2
      rw [if_pos (by omega), if_neg (by omega), Nat.sub_self, show 0 + (i - (0 + (i - 0))) = 0 by omega]
      rfl
    · obtain ⟨j, rfl⟩ : ∃ j, i = k + 1 + j := ⟨i - (k + 1), by omega⟩
      rw [if_neg (by omega), show k + 1 + j - k = j + 1 by omega, show k + (k + 1 + j - (0 + (k - 0) + 1)) = k + j by omega, List.getElem?_cons_succ, List.getElem?_drop, List.getD_eq_getElem?_getD]
theorem sp_bad (R : List RuleL) (k : Nat) (v : RuleL) (h : rightR v = false) : (spL R k v).all rightR = false := by
  unfold spL
  rw [List.all_append, List.all_cons, h]
  simp
@[reducible] def zz : RuleL := ⟨3, [122, 122], [], []⟩
theorem zz_row (x : Nat) : ∀ i, i < x + 1 → ruleP zz = if i < x then ruleP zz else nthL [ruleP zz] (0 + (i - x)) := by
  intro i hi
  split
  · rfl
  · have e : i - x = 0 := by omega
    rw [e]
    rfl
theorem zz_at : ∀ i, i < 9 → ruleP zz = ruleP ((List.replicate 9 zz).getD i r00) := fun i hi => by
  rw [List.getD_eq_getElem?_getD, List.getElem?_replicate, if_pos hi]
  rfl
theorem zz_pure (x : Nat) : pureE (.g x 4 fun _ => ruleP zz) := fun _ _ => by simp [pureL, pureS, pureE]
theorem bad_f {s : SetL} (hs : ValidS s) (l : List RuleL) (h : ¬ (l.all rightR = true ∧ l.length ≤ 8)) (v : Int) (hv : 0 ≤ v ∧ v ≤ 60000) : fwdS s l v = (zeroS, 230) ∧ backS s l v = (zeroS, 230) := by
  have h1 : ¬ (validS s = false ∨ ¬ (0 ≤ v ∧ v ≤ 60000)) := by rw [(validS_iff s).2 hs]; simp; omega
  unfold fwdS backS migS
  rw [if_neg h1, if_pos h, if_neg h1, if_pos h]
  exact ⟨rfl, rfl⟩
theorem arg_f {s : SetL} (l : List RuleL) (v : Int) (h : validS s = false ∨ ¬ (0 ≤ v ∧ v ≤ 60000)) : fwdS s l v = (zeroS, 1) ∧ backS s l v = (zeroS, 1) := by
  unfold fwdS backS migS
  rw [if_pos h, if_pos h]
  exact ⟨rfl, rfl⟩
def vN (c : UInt8) (x : Nat) : Nm := [c] ++ [UInt8.ofNat (IntKind.u8.wrap (97 + (x : Int))).toNat]
theorem vN_pure (c : UInt8) (n : Nat) : pureE (.g n 2 fun i => valP ⟨vN c i, []⟩) := fun _ _ => by simp [pureL, pureS, pureE]
theorem v_row (c : UInt8) (x : Nat) : ∀ i, i < x + 1 → valP ⟨vN c i, []⟩ = if i < x then valP ⟨vN c i, []⟩ else nthL [valP ⟨vN c x, []⟩] (0 + (i - x)) := by
  intro i hi
  split
  · rfl
  · obtain rfl : i = x := by omega
    rw [Nat.sub_self]
    rfl
def rN (x : Nat) : RuleL := ⟨2, vN 119 x, [], []⟩
theorem rN_pure (n : Nat) : pureE (.g n 4 fun i => ruleP (rN i)) := fun _ _ => by simp [pureL, pureS, pureE]
theorem rN_row (x : Nat) : ∀ i, i < x + 1 → ruleP (rN i) = if i < x then ruleP (rN i) else nthL [ruleP (rN x)] (0 + (i - x)) := by
  intro i hi
  split
  · rfl
  · obtain rfl : i = x := by omega
    rw [Nat.sub_self]
    rfl
def fullL (n : Nat) : List ValL := (List.range n).map fun i => ⟨vN 118 i, []⟩
def putsL (n : Nat) : List RuleL := (List.range n).map rN
theorem full_len (n : Nat) : (fullL n).length = n := by simp [fullL]
theorem puts_len (n : Nat) : (putsL n).length = n := by simp [putsL]
theorem full_at (n i : Nat) (h : i < n) : (fullL n).getD i v00 = ⟨vN 118 i, []⟩ := by
  unfold fullL
  rw [List.getD_eq_getElem?_getD, List.getElem?_map, List.getElem?_range h]
  rfl
theorem puts_at (n i : Nat) (h : i < n) : (putsL n).getD i r00 = rN i := by
  unfold putsL
  rw [List.getD_eq_getElem?_getD, List.getElem?_map, List.getElem?_range h]
  rfl
theorem full_code : ∀ m, m < 17 → ∀ n, n < 9 → (fwdS ⟨0, fullL m, []⟩ (putsL n) 1).2 = if 16 < m + n then 2 else 0 := by decide +kernel
theorem full_fwd (m : Nat) (hm : m ≤ 16) (n : Nat) (hn : n ≤ 8) : ∃ W, fwdS ⟨0, fullL m, []⟩ (putsL n) 1 = (W, if 16 < m + n then 2 else 0) := by
  have h := full_code m (by omega) n (by omega)
  generalize fwdS ⟨0, fullL m, []⟩ (putsL n) 1 = r at h
  obtain ⟨W, e⟩ := r
  exact ⟨W, by rw [← h]⟩
theorem gxA {P : Program} {Γ : Glob} {f : FuncId} {v : Int} {c d z res : SV} {n sz : Nat} {f1 : Nat → List SV} (f2 : Nat → List SV) (h : Fun P Γ f [.agg [.int .i64 v, .ro (.g n sz f1), z], c, d] res) (he : ∀ i, i < n → f2 i = f1 i) : Fun P Γ f [.agg [.int .i64 v, .ro (.g n sz f2), z], c, d] res := by
  intro T w vs hT hG ht
  cases ht with
  | cons s v0 l vs1 hr hl =>
    cases hr with
    | agg _ cs hi =>
      cases hi with
      | one s1 c1 l1 cs1 k1 hr1 hl1 =>
        cases hl1 with
        | one s2 c2 l2 cs2 k2 hr2 hl2 => exact h T w _ hT hG (.cons _ _ _ _ (.agg _ _ (.one _ _ _ _ k1 hr1 (.one _ _ _ _ rfl (rep_gx hr2 he) hl2))) hl)
section
variable {a b : TypeId} {p q : Value}
theorem full_spec (m n : Nat) (hn : n ≤ 1000) : Fun Tryz.prog (Γs a b p q) 15 [.agg [.int .i64 0, .ro (.g m 2 fun i => valP ⟨vN 118 i, []⟩), .ro (valE [])], .ro (.g n 4 fun i => ruleP (rN i)), .int .i64 1] (.tup [(fwdS ⟨0, fullL m, []⟩ (putsL n) 1).1.v, .int .i64 (fwdS ⟨0, fullL m, []⟩ (putsL n) 1).2]) := by
  have h := Fun.weak (Γ := Γs a b p q) (Fwd_spec ⟨0, fullL m, []⟩ (putsL n) 1 (by rw [puts_len]; omega))
  have e1 : valE (fullL m) = .g m 2 fun i => valP ((fullL m).getD i v00) := by unfold valE; rw [full_len]
  have e2 : ruleE (putsL n) = .g n 4 fun i => ruleP ((putsL n).getD i r00) := by unfold ruleE; rw [puts_len]
  dsimp only [SetL.v] at h
  rw [e1, e2] at h
  exact gxA _ (gx2 _ h fun i hi => by rw [puts_at n i hi]) fun i hi => by rw [full_at m i hi]
end
section
variable {a b : TypeId} {p q : Value}
theorem refs_spec (x : Raw) (hx : RawOk x) (L : List Quad) (hL : ∀ q ∈ L, QuadOk q) (c d e : Int) (hc : 0 ≤ c ∧ c < 256) (hd : 0 ≤ d ∧ d < 256) (he : 0 ≤ e ∧ e < 256) : Fun Tryz.prog (Γs a b p q) 10 [x.v, .ro (quadE L), .agg [.int .u8 c, .int .u8 d, .int .u8 e]] (.bool true) := by
  have hup := sanity_spec (a := a) (b := b) (p := p) (q := q)
  have hM := Fun.weak (Γ := Γs a b p q) (made_spec x hx)
  have hs := made_ok' x hx
  have hpl : pureE (quadE L) := fun _ _ => by simp [pureL, pureS, pureE]
  have hp1 := pur_pair x.vals
  have hp2 := pur_pair x.kept
  generalize madeS x = s at hM hs
  have hG := Fun.weak (Γ := Γs a b p q) (rules_spec L hL 7 (by decide))
  have hr := rules_ok L hL 7
  generalize rulesN L 7 = R at hG hr
  have hlen := hr.len
  have hpr := pur_rule R
  obtain ⟨c1, c2⟩ := tm c hc.1 8 (by decide)
  obtain ⟨e1, e2⟩ := tm e he.1 8 (by decide)
  have m0 : 0 ≤ d % ((R.length : Int) + 1) := Int.emod_nonneg _ (by omega)
  have m1 : d % ((R.length : Int) + 1) < (R.length : Int) + 1 := Int.emod_lt_of_pos d (by omega)
  refine Fun.mk 8 Tryz.func10 rfl Tryz.ntmps10 rfl rfl fun T w0 => ?_
  repeat' (first
    | ((with_reducible apply Sat.run (X := X64)); exact rfl; (first | exact True.intro | (exact phi) | skip))
    | ((with_reducible apply Sat.call0 (hup)); exact rfl; exact rfl; kernel_rfl; exact rfl)
    | ((with_reducible apply Sat.call (hM)); exact rfl; exact rfl; kernel_rfl; (exact cnvX); exact rfl)
    | ((with_reducible apply Sat.call (hG)); exact rfl; exact rfl; kernel_rfl; (exact cnvX); exact rfl) | fail)
  have hk : (d % ((R.length : Int) + 1)).toNat ≤ R.length := by omega
  generalize hkk : (d % ((R.length : Int) + 1)).toNat = k at hk
  refine Sat.reC (i := 9) (.g (0 + (k - 0) + 1 + (R.length - k)) 4 fun i => ruleP ((spL R k (badR c)).getD i r00)) rfl rfl (by subst hkk; exact Nat.le_refl _) rfl (fun i hi => by subst hkk; exact sp_row R _ (badR c) hk i hi) ?_
  have hsp : pureE (.g (0 + (k - 0) + 1 + (R.length - k)) 4 fun i => ruleP ((spL R k (badR c)).getD i r00)) := by rw [← sp_E R k _ hk]; exact pur_rule _
  refine Sat.kill [57, 61, 62, 65, 66, 71] rfl ?_
  apply Sat.loop (α := Nat) (fun x => x ≤ 9) (fun x => 9 - x) 0 (fun x => [(13, .row 10 0 4 0 x), (14, .int .i64 (x : Int))]) (fun x => [(10, .row 28 (.g x 4 fun _ => ruleP zz))]) [] [] 0
  · intro x; exact rfl
  · intro x; exact rfl
  · exact rfl
  · exact rfl
  · (repeat' (first | exact AllP.nil | with_reducible refine AllP.cons ?_ ?_)) <;> first | exact rfl | exact hsp | exact zz_pure _ | exact trivial | exact ⟨rfl, rfl, rfl, rfl⟩ | exact .inl ⟨rfl, rfl, rfl⟩ | exact pur_val _ | exact pur_pair _ | exact hpl | exact hpr | (intro i hi; exact absurd hi (Nat.not_lt_zero _)) | exact fun _ _ => rfl | exact rN_pure _ | (intro i hi; exact absurd hi (Nat.not_lt_zero _)) | exact pure_lit1 _ (by simp [pureL, pureS, pureE]) | (intro i _; exact ⟨trivial, trivial, trivial, trivial, trivial⟩) | exact .inl ⟨rfl, by subst hkk; rfl, rfl⟩
  · exact Nat.zero_le _
  intro i hi0
  by_cases hi : i < 9
  · have hc : decide ((i : Int) < 9) = true := decide_eq_true (by omega)
    repeat' (first
      | (rw [hc])
      | ((with_reducible apply Sat.run (X := X64)); exact rfl; (first | exact True.intro | (exact phi) | skip))
      | ((with_reducible apply Sat.cond_t); exact rfl) | fail)
    refine Sat.reX (i := 12) (.g (i + 1) 4 fun _ => ruleP zz) rfl rfl (Nat.le_refl _) rfl (fun j hj => zz_row i j hj) ?_
    refine Sat.back (i + 1) [(10, some 12)] rfl ?_ (by omega) (by omega)
    (repeat' (first | exact AllP.nil | with_reducible refine AllP.cons ?_ ?_)) <;> first | exact rfl | exact hsp | exact zz_pure _ | exact trivial | exact ⟨rfl, rfl, rfl, rfl⟩ | exact .inl ⟨rfl, rfl, rfl⟩ | exact pur_val _ | exact pur_pair _ | exact hpl | exact hpr | exact fun _ _ => rfl | exact rN_pure _ | (intro i hi; exact absurd hi (Nat.not_lt_zero _)) | exact pure_lit1 _ (by simp [pureL, pureS, pureE]) | (intro i _; exact ⟨trivial, trivial, trivial, trivial, trivial⟩) | exact .inl ⟨rfl, by subst hkk; rfl, rfl⟩
  · obtain rfl : i = 9 := by omega
    have v60 : (60001 : Int) > 60000 := by decide
    have hb : ¬ ((spL R k (badR c)).all rightR = true ∧ (spL R k (badR c)).length ≤ 8) := fun z => by rw [sp_bad R k _ (bad_no c hc.1)] at z; cases z.1
    have hlen2 : (spL R k (badR c)).length ≤ 1000000 := by rw [sp_len R k _ hk]; omega
    have h1 := Fun.weak (Γ := Γs a b p q) (Fwd_spec s (spL R k (badR c)) 1 hlen2)
    rw [(bad_f hs.valid _ hb 1 (by decide)).1, sp_E R k _ hk] at h1
    have h2 := Fun.weak (Γ := Γs a b p q) (Bck_spec s (spL R k (badR c)) 1 hlen2)
    rw [(bad_f hs.valid _ hb 1 (by decide)).2, sp_E R k _ hk] at h2
    have h3 := gx2 (fun _ => ruleP zz) (Fun.weak (Γ := Γs a b p q) (Fwd_spec s (List.replicate 9 zz) 1 (by decide))) zz_at
    rw [(bad_f hs.valid (List.replicate 9 zz) (by decide) 1 (by decide)).1] at h3
    have h4 := Fun.weak (Γ := Γs a b p q) (Fwd_spec s (spL R k (badR c)) 60001 hlen2)
    rw [(arg_f (s := s) _ 60001 (.inr (by decide))).1, sp_E R k _ hk] at h4
    have h5 := Fun.weak (Γ := Γs a b p q) (Bck_spec ⟨-1, [], []⟩ (spL R k (badR c)) 1 hlen2)
    rw [(arg_f (s := ⟨-1, [], []⟩) (spL R k (badR c)) 1 (.inl (by decide))).2, sp_E R k _ hk] at h5
    have q1 := pur_val s.vals
    have q2 := pur_val s.kept
    repeat' (first
      | ((with_reducible apply Sat.run (X := X64)); exact rfl; (first | exact True.intro | (exact phi) | skip))
      | ((with_reducible apply Sat.cond_f); exact rfl) | fail)
    refine Sat.freezeR true 9 rfl ?_ ?_
    · (repeat' (first | exact AllP.nil | with_reducible refine AllP.cons ?_ ?_)) <;> first | exact rfl | exact hsp | exact zz_pure _ | exact trivial | exact ⟨rfl, rfl, rfl, rfl⟩ | exact .inl ⟨rfl, rfl, rfl⟩ | exact pur_val _ | exact pur_pair _ | exact hpl | exact hpr | exact fun _ _ => rfl | exact rN_pure _ | (intro i hi; exact absurd hi (Nat.not_lt_zero _)) | exact pure_lit1 _ (by simp [pureL, pureS, pureE]) | (intro i _; exact ⟨trivial, trivial, trivial, trivial, trivial⟩) | exact .inl ⟨rfl, by subst hkk; rfl, rfl⟩
    refine Sat.freezeR true 10 rfl ?_ ?_
    · (repeat' (first | exact AllP.nil | with_reducible refine AllP.cons ?_ ?_)) <;> first | exact rfl | exact hsp | exact zz_pure _ | exact trivial | exact ⟨rfl, rfl, rfl, rfl⟩ | exact .inl ⟨rfl, rfl, rfl⟩ | exact pur_val _ | exact pur_pair _ | exact hpl | exact hpr | exact fun _ _ => rfl | exact rN_pure _ | (intro i hi; exact absurd hi (Nat.not_lt_zero _)) | exact pure_lit1 _ (by simp [pureL, pureS, pureE]) | (intro i _; exact ⟨trivial, trivial, trivial, trivial, trivial⟩) | exact .inl ⟨rfl, by subst hkk; rfl, rfl⟩
    repeat' (first
      | ((with_reducible apply Sat.run (X := X64)); exact rfl; (first | exact True.intro | (exact phi) | skip))
      | ((with_reducible apply Sat.cond_f); exact rfl)
      | ((with_reducible apply Sat.call (h1)); exact rfl; exact rfl; kernel_rfl; (exact cnvX); exact rfl)
      | ((with_reducible apply Sat.call (h2)); exact rfl; exact rfl; kernel_rfl; (exact cnvX); exact rfl)
      | ((with_reducible apply Sat.call (h3)); exact rfl; exact rfl; kernel_rfl; (exact cnvX); exact rfl)
      | ((with_reducible apply Sat.call (h4)); exact rfl; exact rfl; kernel_rfl; (exact cnvX); exact rfl)
      | ((with_reducible apply Sat.call (h5)); exact rfl; exact rfl; kernel_rfl; (exact cnvX); exact rfl) | fail)
    refine Sat.kill [129] rfl ?_
    apply Sat.loop (α := Nat) (fun x => x ≤ 16) (fun x => 16 - x) 0 (fun x => [(27, .int .i64 (x : Int))]) (fun x => [(17, .cells 32 [.int .i64 0, .row 18 0 2 0 x, .nils]), (18, .row 53 (.g x 2 fun i => valP ⟨vN 118 i, []⟩))]) [] [(18, none)] 1
    · intro x; exact rfl
    · intro x; exact rfl
    · exact rfl
    · exact rfl
    · (repeat' (first | exact AllP.nil | with_reducible refine AllP.cons ?_ ?_)) <;> first | exact rfl | exact hsp | exact zz_pure _ | exact vN_pure _ _ | exact trivial | exact ⟨rfl, rfl, rfl, rfl⟩ | exact .inl ⟨rfl, rfl, rfl⟩ | exact pur_val _ | exact pur_pair _ | exact hpl | exact hpr | exact fun _ _ => rfl | exact rN_pure _ | (intro i hi; exact absurd hi (Nat.not_lt_zero _)) | exact pure_lit1 _ (by simp [pureL, pureS, pureE]) | (intro i _; exact ⟨trivial, trivial, trivial, trivial, trivial⟩) | exact .inl ⟨rfl, by subst hkk; rfl, rfl⟩
    · exact Nat.zero_le _
    intro i hi0
    by_cases hi : i < 16
    · have hcc : decide ((i : Int) < 16) = true := decide_eq_true (by omega)
      repeat' (first
        | (rw [hcc])
        | ((with_reducible apply Sat.run (X := X64)); exact rfl; (first | exact True.intro | (exact phi) | skip))
        | ((with_reducible apply Sat.cond_t); exact rfl) | fail)
      · ((repeat' (first | exact AllP.nil | with_reducible refine AllP.cons ?_ ?_)) <;> first | exact rfl | exact inR_i64 (by omega) (by omega) | ((try dsimp only [V.EV.len, V.EV.sub]); omega) | (simp [okLen]; done) | decide | (simp [okLen]; omega))
      · refine Sat.reX (i := 21) (.g (i + 1) 2 fun j => valP ⟨vN 118 j, []⟩) rfl rfl (Nat.le_refl _) rfl (fun j hj => v_row 118 i j hj) ?_
        refine Sat.back (i + 1) [(18, some 21)] rfl ?_ (by omega) (by omega)
        (repeat' (first | exact AllP.nil | with_reducible refine AllP.cons ?_ ?_)) <;> first | exact rfl | exact hsp | exact zz_pure _ | exact vN_pure _ _ | exact trivial | exact ⟨rfl, rfl, rfl, rfl⟩ | exact .inl ⟨rfl, rfl, rfl⟩ | exact pur_val _ | exact pur_pair _ | exact hpl | exact hpr | exact fun _ _ => rfl | exact rN_pure _ | (intro i hi; exact absurd hi (Nat.not_lt_zero _)) | exact pure_lit1 _ (by simp [pureL, pureS, pureE]) | (intro i _; exact ⟨trivial, trivial, trivial, trivial, trivial⟩) | exact .inl ⟨rfl, by subst hkk; rfl, rfl⟩
    · obtain rfl : i = 16 := by omega
      repeat' (first
        | ((with_reducible apply Sat.run (X := X64)); exact rfl; (first | exact True.intro | (exact phi) | skip))
        | ((with_reducible apply Sat.cond_f); exact rfl) | fail)
      apply Sat.loop (α := Nat) (fun x => (x : Int) ≤ e.tmod 8 + 1) (fun x => 9 - x) 0 (fun x => [(26, .row 16 0 4 0 x), (28, .int .i64 (x : Int))]) (fun x => [(16, .row 28 (.g x 4 fun i => ruleP (rN i)))]) [] [] 0
      · intro x; exact rfl
      · intro x; exact rfl
      · exact rfl
      · exact rfl
      · (repeat' (first | exact AllP.nil | with_reducible refine AllP.cons ?_ ?_)) <;> first | exact rfl | exact hsp | exact zz_pure _ | exact vN_pure _ _ | exact trivial | exact ⟨rfl, rfl, rfl, rfl⟩ | exact .inl ⟨rfl, rfl, rfl⟩ | exact pur_val _ | exact pur_pair _ | exact hpl | exact hpr | exact fun _ _ => rfl | exact rN_pure _ | (intro i hi; exact absurd hi (Nat.not_lt_zero _)) | exact pure_lit1 _ (by simp [pureL, pureS, pureE]) | (intro i _; exact ⟨trivial, trivial, trivial, trivial, trivial⟩) | exact .inl ⟨rfl, by subst hkk; rfl, rfl⟩
      · show ((0 : Nat) : Int) ≤ e.tmod 8 + 1
        omega
      intro i hi0
      by_cases hi : (i : Int) < e.tmod 8 + 1
      · have hcc : decide ((i : Int) < e.tmod 8 + 1) = true := decide_eq_true hi
        repeat' (first
          | (rw [hcc])
          | ((with_reducible apply Sat.run (X := X64)); exact rfl; (first | exact True.intro | (exact phi) | skip))
          | ((with_reducible apply Sat.cond_t); exact rfl) | fail)
        · ((repeat' (first | exact AllP.nil | with_reducible refine AllP.cons ?_ ?_)) <;> first | exact rfl | exact inR_i64 (by omega) (by omega) | ((try dsimp only [V.EV.len, V.EV.sub]); omega) | (simp [okLen]; done) | decide | (simp [okLen]; omega))
        · refine Sat.reX (i := 21) (.g (i + 1) 4 fun j => ruleP (rN j)) rfl rfl (Nat.le_refl _) rfl (fun j hj => rN_row i j hj) ?_
          refine Sat.back (i + 1) [(16, some 21)] rfl ?_ (by show ((i + 1 : Nat) : Int) ≤ e.tmod 8 + 1; omega) (by omega)
          (repeat' (first | exact AllP.nil | with_reducible refine AllP.cons ?_ ?_)) <;> first | exact rfl | exact hsp | exact zz_pure _ | exact vN_pure _ _ | exact trivial | exact ⟨rfl, rfl, rfl, rfl⟩ | exact .inl ⟨rfl, rfl, rfl⟩ | exact pur_val _ | exact pur_pair _ | exact hpl | exact hpr | exact fun _ _ => rfl | exact rN_pure _ | (intro i hi; exact absurd hi (Nat.not_lt_zero _)) | exact pure_lit1 _ (by simp [pureL, pureS, pureE]) | (intro i _; exact ⟨trivial, trivial, trivial, trivial, trivial⟩) | exact .inl ⟨rfl, by subst hkk; rfl, rfl⟩
      · obtain ⟨n, hn⟩ : ∃ n : Nat, (n : Int) = e.tmod 8 + 1 := ⟨(e.tmod 8 + 1).toNat, by omega⟩
        obtain rfl : i = n := by omega
        have hcc : decide ((i : Int) < e.tmod 8 + 1) = false := decide_eq_false (by omega)
        repeat' (first
          | (rw [hcc])
          | ((with_reducible apply Sat.run (X := X64)); exact rfl; (first | exact True.intro | (exact phi) | skip))
          | ((with_reducible apply Sat.cond_f); exact rfl) | fail)
        · obtain ⟨g1, g2⟩ := tm (IntKind.u8.wrap (e.tdiv 8)) (wrU_rng _).1 4 (by decide)
          generalize (IntKind.u8.wrap (e.tdiv 8)).tmod 4 = g at g1 g2
          (repeat' (first | exact AllP.nil | with_reducible refine AllP.cons ?_ ?_)) <;> first | exact rfl | omega | exact inR_i64 (by omega) (by omega) | (dsimp only [Option.getD]; omega) | decide
        · obtain ⟨g1, g2⟩ := tm (IntKind.u8.wrap (e.tdiv 8)) (wrU_rng _).1 4 (by decide)
          generalize (IntKind.u8.wrap (e.tdiv 8)).tmod 4 = g at g1 g2
          have hi8 : i ≤ 8 := by omega
          have hM16 : (16 - g).toNat - 0 ≤ 16 := by omega
          obtain ⟨W, hW⟩ := full_fwd ((16 - g).toNat - 0) hM16 i hi8
          have z1 := full_spec (a := a) (b := b) (p := p) (q := q) ((16 - g).toNat - 0) i (by omega)
          rw [hW] at z1
          refine slotsOff [166] rfl ?_
          refine Sat.reR (i := 18) (.g ((16 - g).toNat - 0) 2 fun i => valP ⟨vN 118 i, []⟩) rfl rfl (by show (16 - g).toNat - 0 ≤ 16; omega) rfl (fun _ _ => rfl) ?_
          have hvp := vN_pure 118 ((16 - g).toNat - 0)
          have hrp := rN_pure i
          refine Sat.freezeR true 18 rfl ?_ ?_
          · (repeat' (first | exact AllP.nil | with_reducible refine AllP.cons ?_ ?_)) <;> first | exact rfl | exact hsp | exact zz_pure _ | exact vN_pure _ _ | exact trivial | exact ⟨rfl, rfl, rfl, rfl⟩ | exact .inl ⟨rfl, rfl, rfl⟩ | exact .inr ⟨(by show 0 + 0 + ((16 - g).toNat - 0) ≤ 16; omega), rfl⟩ | exact pur_val _ | exact pur_pair _ | exact hpl | exact hpr | exact fun _ _ => rfl | exact rN_pure _ | (intro i hi; exact absurd hi (Nat.not_lt_zero _)) | exact pure_lit1 _ (by simp [pureL, pureS, pureE]) | (intro i _; exact ⟨trivial, trivial, trivial, trivial, trivial⟩) | exact .inl ⟨rfl, by subst hkk; rfl, rfl⟩
          refine Sat.freezeR true 16 rfl ?_ ?_
          · (repeat' (first | exact AllP.nil | with_reducible refine AllP.cons ?_ ?_)) <;> first | exact rfl | exact hsp | exact zz_pure _ | exact vN_pure _ _ | exact trivial | exact ⟨rfl, rfl, rfl, rfl⟩ | exact .inl ⟨rfl, rfl, rfl⟩ | exact .inr ⟨(by show 0 + 0 + ((16 - g).toNat - 0) ≤ 16; omega), rfl⟩ | exact pur_val _ | exact pur_pair _ | exact hpl | exact hpr | exact fun _ _ => rfl | exact rN_pure _ | (intro i hi; exact absurd hi (Nat.not_lt_zero _)) | exact pure_lit1 _ (by simp [pureL, pureS, pureE]) | (intro i _; exact ⟨trivial, trivial, trivial, trivial, trivial⟩) | exact .inl ⟨rfl, by subst hkk; rfl, rfl⟩
          by_cases h16 : 16 < (16 - g).toNat - 0 + i
          · rw [if_pos h16] at z1
            repeat' (first
              | ((with_reducible apply Sat.run (X := X64)); exact rfl; (first | exact True.intro | (exact phi) | skip))
              | ((with_reducible apply Sat.call (z1)); exact rfl; exact rfl; kernel_rfl; (exact cnvX); exact rfl) | fail)
            (refine Sat.fin (Sat.end1 rfl rfl rfl True.intro (.refl _ purX) (by first | exact .inl rfl | exact .inr rfl) (fun _ h => h)) ?_; (refine congrArg SV.bool ?_; have h17 : (16 : Int) < (((16 - g).toNat - 0 : Nat) : Int) + (i : Int) := (by omega); have h18 := decide_eq_true h17; first | (show true = (bif bif decide (((W, 2) : SetL × Int).2 = 2) == decide ((16 : Int) < (((16 - g).toNat - 0 : Nat) : Int) + (i : Int)) then bif decide (((W, 2) : SetL × Int).2 = 0) then true else decide (((W, 2) : SetL × Int).2 = 2) else false then true else false); rw [h18]; rfl) | (simp [EV.len, h17]; done) | (simp [EV.len]; omega)))
          · rw [if_neg h16] at z1
            repeat' (first
              | ((with_reducible apply Sat.run (X := X64)); exact rfl; (first | exact True.intro | (exact phi) | skip))
              | ((with_reducible apply Sat.call (z1)); exact rfl; exact rfl; kernel_rfl; (exact cnvX); exact rfl) | fail)
            (refine Sat.fin (Sat.end1 rfl rfl rfl True.intro (.refl _ purX) (by first | exact .inl rfl | exact .inr rfl) (fun _ h => h)) ?_; (refine congrArg SV.bool ?_; have h17 : ¬ (16 : Int) < (((16 - g).toNat - 0 : Nat) : Int) + (i : Int) := (by omega); have h18 := decide_eq_false h17; first | (show true = (bif bif decide (((W, 0) : SetL × Int).2 = 2) == decide ((16 : Int) < (((16 - g).toNat - 0 : Nat) : Int) + (i : Int)) then bif decide (((W, 0) : SetL × Int).2 = 0) then true else decide (((W, 0) : SetL × Int).2 = 2) else false then true else false); rw [h18]; rfl) | (simp [EV.len, h17]; done) | (simp [EV.len]; omega)))
end
end Go.Proofs.YtpbgihhfcdggkaaGreatDoor
end
section
namespace Go.Proofs.YtpbgihhfcdggkaaGreatDoor
open Go.RowKit Go.ChangeShapes Go.WideShapes V
set_option maxRecDepth 100000
set_option maxHeartbeats 8000000
theorem settingsRefuses_step (os : Os) (started : os.Started) (H : Type) (enc : TypeId × Value → H) (F : Stop.Interp) :
    ReturnsInHanded {} Tryz.checked os 10 .any ((OpenSpec.ofChange Rows.settingsRefusesSpec).preRow enc Tryz.prog Tryz.f10 Rows.settingsRefusesRow.domain false Rows.settingsRefusesRow.laid) (((OpenSpec.ofChange Rows.settingsRefusesSpec).at F).post enc Tryz.prog Tryz.f10 false true false false) := by
  refine law_step2 (C := Tryz.checked) (fn := Tryz.f10) (s := OpenSpec.ofChange Rows.settingsRefusesSpec) (F := F) (tb := 4) Γw own started (by kernel_rfl) Tryz.func10 laidOut (by kernel_rfl) (by kernel_rfl) (by kernel_rfl) Tryz.underlying4 rfl ?_
    (row_witness (World.laidAll Tryz.prog os tabs_laid) #[.agg #[.int .u16 0, .slice none 0 0, .slice none 0 0], .slice none 0 0, .agg #[.int .u8 0, .int .u8 0, .int .u8 0]] (World.laidAll_os _ _ _) (by kernel_rfl) (by kernel_rfl) (by kernel_rfl) (by kernel_rfl) (by kernel_rfl) (door_met os _)) tabs_glob ?_
  · intro ds hl
    obtain ⟨d1, d2, d3, rfl⟩ := list_len3 hl
    rfl
  · intro W vs ds hl ht hk
    obtain ⟨d1, d2, d3, rfl⟩ := list_len3 hl
    refine Fun.facts fun hf => ?_
    show Fun _ _ _ [rawSV d1, .ro (quadsSV (eOf d2)), .agg [.int .u8 (iOf (nthD (ptsD d3) 0)), .int .u8 (iOf (nthD (ptsD d3) 1)), .int .u8 (iOf (nthD (ptsD d3) 2))]] _
    obtain ⟨⟨h1, ⟨_, h2⟩, ⟨_, h3⟩, _⟩, ⟨_, h4⟩, ⟨k1, k2, k3, _⟩, _⟩ := hf
    rw [rawSV_eq, quadsSV_eq]
    exact refs_spec _ (raw_ok _ h1 h2 h3) _ (quads_ok _ h4) _ _ _ (u8_lt k1) (u8_lt k2) (u8_lt k3)
theorem settingsRefuses_said : Rows.SettingsRefusesSaid :=
  OpenClaim.holds_of_cond 10 Tryz.f10 rfl rfl rfl rfl rfl rfl rfl ⟨rfl, rfl, rfl, rfl, rfl⟩ rfl rfl rfl rfl rfl (by kernel_rfl) Tryz.func10 (by kernel_rfl)
    (of_decide_eq_true (by kernel_rfl)) (by unfold Func.isWrapper; first | (rw [if_pos (by decide +kernel)]; kernel_rfl) | (rw [if_neg (by decide +kernel)]; exact ⟨rfl, rfl⟩))
    (fun os started H enc _ F => by rw [OpenClaim.pre_eq_preRow]; exact settingsRefuses_step os started H enc F)
theorem settingsRefuses_plain (f : FuncId) (fn : Func) (hf : Tryz.pinned.checked.prog.funcNamed "inlay/inlaylaw23.SettingsRefuses" = some f) (hfn : Tryz.pinned.checked.prog.funcs[f]? = some fn) :
    true = Tryz.pinned.checked.prog.looks [] ∧ ∀ (j : Nat) t, fn.params[j]? = some t → Tryz.pinned.checked.prog.wantsStandIn t = false := by
  obtain rfl : f = 10 := Option.some.inj ((show Tryz.prog.funcNamed "inlay/inlaylaw23.SettingsRefuses" = some 10 by kernel_rfl).symm.trans hf) |>.symm
  obtain rfl : fn = Tryz.f10 := (Option.some.inj (Tryz.func10.symm.trans hfn)).symm
  refine ⟨by kernel_rfl, fun j t ht => ?_⟩
  have hall : Tryz.f10.params.all (fun t => !(Tryz.prog.wantsStandIn t)) = true := by kernel_rfl
  have := (Array.all_eq_true_iff_forall_mem.1 hall) t (Array.mem_of_getElem? ht)
  have h2 : Tryz.prog.wantsStandIn t = false := by simpa using this
  exact h2
theorem settingsRefuses_card : Rows.SettingsRefusesCardSaid :=
  Claim7.holds_tied_plain_at .later [] _ _ _ _ settingsRefuses_said (fun _ h => by cases h) (by kernel_rfl) (fun _ h => by cases h) settingsRefuses_row_tie rfl ⟨rfl, rfl⟩ (by kernel_rfl) rfl settingsRefuses_plain (by kernel_rfl)
end Go.Proofs.YtpbgihhfcdggkaaGreatDoor
end
