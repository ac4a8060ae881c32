/-
  Joined texts: MX: Meta: ParseRoot of the program.
  NP: Meta: what is written is read (plain law).
  NA: Meta: the reader of the reference.
  NB: Meta: Parse of the reference.
  NC: Meta: ParseRoot of the reference.
  NQ: Meta: what is written is read, by the reference too; roots (plain law).
  Bd: A walk by abstract values: one operation of a region alone.
  ND: Meta: the hashes and the examples; Same of releases.
  Be: Calls without arguments; calls under a guard that is known to hold, in a region that draws its order.
  NE: Meta: the fixed examples.
  NF: Meta: the releases and roots that raw numbers describe (plain).
  NG: Meta: Made.
  NI: Meta: MadeRoot.
-/
import Derived.Test.YtegbdcadlmefgaaDoorQD
import Derived.Test.YtegbdcadlmefgaaDoorQC
section
namespace Go.Proofs.YtegbdcadlmefgaaDoor
open Go.RowKit V
--PURE: (intro _ _; simp [pureL, pureS, pureE]; done)
set_option maxRecDepth 100000
set_option maxHeartbeats 4000000
set_option linter.unusedSimpArgs false
attribute [local irreducible] V.Sat V.DSat tkO tkR tkB numV hashO
def rdSum (s : RdS) : List UInt8 × RdS := (hashO s.l, s.tk 32)
def rdInt1 (s : RdS) : Int × RdS := ((s.num 1 : Int), s.tk 1)
def keysP (s : RdS) : List Int × RdS := listP rdInt1 (s.num 1) (s.tk 1)
def rdRole (s : RdS) : RoleL × RdS := (⟨tkO (s.tk 1).l (s.num 1), (keysP ((s.tk 1).tk (s.num 1))).1, ((keysP ((s.tk 1).tk (s.num 1))).2.num 1 : Int)⟩, (keysP ((s.tk 1).tk (s.num 1))).2.tk 1)
def sumsP (s : RdS) : List (List UInt8) × RdS := listP rdSum (s.num 1) (s.tk 1)
def rolesP (s : RdS) : List RoleL × RdS := listP rdRole (s.num 1) (s.tk 1)
theorem sums_snoc (ks : List (List UInt8)) (p : List UInt8) (i : Nat) (hi : i < ks.length + 1) : (if i < ks.length then [SV.arr 32 (.u8 (ks.getD i []))] else nthL [[SV.arr 32 (.u8 p)]] (0 + (i - ks.length))) = [SV.arr 32 (.u8 ((ks ++ [p]).getD i []))] := by
  by_cases h : i < ks.length
  · rw [if_pos h]
    simp [List.getD_eq_getElem?_getD, List.getElem?_append_left h]
  · rw [if_neg h]
    have : i = ks.length := by omega
    subst this
    simp [nthL]
theorem sums_pure (ks : List (List UInt8)) (p : List UInt8) : pureE (.g (ks.length + 1) 32 fun i => if i < ks.length then [SV.arr 32 (.u8 (ks.getD i []))] else nthL [[SV.arr 32 (.u8 p)]] (0 + (i - ks.length))) := fun i hi => by
  have h := sums_snoc ks p i hi
  show pureL (if i < ks.length then _ else _)
  rw [h]
  exact ⟨by simp [pureS, pureE], trivial⟩
theorem roles_snoc (rs : List RoleL) (p : RoleL) (i : Nat) (hi : i < rs.length + 1) : (if i < rs.length then [SV.str (rs.getD i role0).name, SV.ro (.ints .i64 (rs.getD i role0).keys), SV.int .i64 (rs.getD i role0).need] else nthL [[SV.str p.name, SV.ro (.ints .i64 p.keys), SV.int .i64 p.need]] (0 + (i - rs.length))) = [SV.str ((rs ++ [p]).getD i role0).name, SV.ro (.ints .i64 ((rs ++ [p]).getD i role0).keys), SV.int .i64 ((rs ++ [p]).getD i role0).need] := by
  by_cases h : i < rs.length
  · rw [if_pos h]
    simp [List.getD_eq_getElem?_getD, List.getElem?_append_left h]
  · rw [if_neg h]
    have : i = rs.length := by omega
    subst this
    simp [nthL]
theorem roles_pure (rs : List RoleL) (p : RoleL) : pureE (.g (rs.length + 1) 3 fun i => if i < rs.length then [SV.str (rs.getD i role0).name, SV.ro (.ints .i64 (rs.getD i role0).keys), SV.int .i64 (rs.getD i role0).need] else nthL [[SV.str p.name, SV.ro (.ints .i64 p.keys), SV.int .i64 p.need]] (0 + (i - rs.length))) := fun i hi => by
  have h := roles_snoc rs p i hi
  show pureL (if i < rs.length then _ else _)
  rw [h]
  exact ⟨trivial, by simp [pureS, pureE], trivial, trivial⟩
def hd3 (b : List UInt8) : RdS := ⟨(tkR (tkR (tkR b 1) 4) 4), (tkB (tkR (tkR b 1) 4) (tkB (tkR b 1) (tkB b false 1) 4) 4)⟩
def parseQ (b : List UInt8) : RootL := ⟨(numV (tkO (tkR b 1) 4) : Int), (numV (tkO (tkR (tkR b 1) 4) 4) : Int), (sumsP (hd3 b)).1, (rolesP (sumsP (hd3 b)).2).1⟩
def zeroRoot : RootL := ⟨0, 0, [], []⟩
def okQ (b : List UInt8) : Bool := !decide (b = []) && (rootB (parseQ b) && decide (bytesQ (parseQ b) = b))
theorem parseRoot_walk (b : List UInt8) : Fun Tryd.prog [] 24 [.ro (.u8 b)] (.tup [(bif okQ b then parseQ b else zeroRoot).v, .int .i64 (bif okQ b then 0 else 260)]) := by
  refine Fun.mkF 7 Tryd.func24 rfl Tryd.ntmps24 rfl rfl fun hf T w0 => ?_
  repeat' (first
      | ((with_reducible apply Sat.run (X := X64)); exact rfl; (first | exact True.intro | (exact phi) | skip))
      | ((with_reducible apply Sat.drawn); kernel_rfl)
      | ((with_reducible apply DSat.run (X := X64)); exact rfl; (first | exact True.intro | (exact phi) | skip))
      | ((with_reducible apply DSat.fin); kernel_rfl)
      | ((with_reducible apply Sat.cond_t); exact rfl)
      | ((with_reducible apply Sat.cond_f); exact rfl)
      | ((with_reducible apply Sat.cond_pt); exact rfl; (try dsimp only [V.EV.sub, V.EV.len]); first | assumption | omega)
      | ((with_reducible apply Sat.cond_pf); exact rfl; (try dsimp only [V.EV.sub, V.EV.len]); first | assumption | omega)
      | ((with_reducible apply Sat.cond_p); exact rfl; all_goals intro h)
      | ((with_reducible apply Sat.cond); exact rfl; all_goals intro h)
      | ((with_reducible apply Sat.mcall (take1_rd _ _)); exact rfl; exact rfl; kernel_rfl; (exact cnvX); exact rfl; exact purX; exact rfl; exact rfl)
      | ((with_reducible apply DSat.mcall (take1_rd _ _)); exact rfl; exact rfl; kernel_rfl; (exact cnvX); exact rfl; exact purX; exact rfl; exact rfl)
      | ((with_reducible apply Sat.mcall (num4_rd _ _)); exact rfl; exact rfl; kernel_rfl; (exact cnvX); exact rfl; exact purX; exact rfl; exact rfl)
      | ((with_reducible apply DSat.mcall (num4_rd _ _)); exact rfl; exact rfl; kernel_rfl; (exact cnvX); exact rfl; exact purX; exact rfl; exact rfl) | fail)
  generalize el : (tkR (tkR (tkR b 1) 4) 4) = l8
  generalize eb : (tkB (tkR (tkR b 1) 4) (tkB (tkR b 1) (tkB b false 1) 4) 4) = b8
  have hng := numV_le (tkR b 1) 4
  generalize eng : numV (tkO (tkR b 1) 4) = ng at hng ⊢
  have hne := numV_le (tkR (tkR b 1) 4) 4
  generalize ene : numV (tkO (tkR (tkR b 1) 4) 4) = ne at hne ⊢
  have hN := numV_le l8 1
  repeat' (first
      | ((with_reducible apply Sat.run (X := X64)); exact rfl; (first | exact True.intro | (exact phi) | skip))
      | ((with_reducible apply Sat.drawn); kernel_rfl)
      | ((with_reducible apply DSat.run (X := X64)); exact rfl; (first | exact True.intro | (exact phi) | skip))
      | ((with_reducible apply DSat.fin); kernel_rfl)
      | ((with_reducible apply Sat.inl 7 [] Tryd.func74 Tryd.ntmps74); exact rfl; exact rfl; kernel_rfl; exact rfl; exact rfl; exact rfl; exact rfl; ((repeat' (first | exact AllP.nil | with_reducible refine AllP.cons ?_ ?_)) <;> (first | exact True.intro | exact purX)); intro _ _)
      | ((with_reducible apply Sat.mcall (num1_rd _ _)); exact rfl; exact rfl; kernel_rfl; (exact cnvX); exact rfl; exact purX; exact rfl; exact rfl)
      | ((with_reducible apply DSat.mcall (num1_rd _ _)); exact rfl; exact rfl; kernel_rfl; (exact cnvX); exact rfl; exact purX; exact rfl; exact rfl) | fail)
  generalize eg : listP rdSum (numV (tkO l8 1)) ⟨tkR l8 1, tkB l8 b8 1⟩ = gp
  generalize en : numV (tkO l8 1) = n0 at hN eg ⊢
  generalize eq1 : tkR l8 1 = l9 at eg ⊢
  generalize eq2 : tkB l8 b8 1 = b9 at eg ⊢
  apply Sat.loop (α := Nat × RdS × List (List UInt8)) (fun x => x.1 + x.2.2.length < 256 ∧ gp = (x.2.2 ++ (listP rdSum x.1 x.2.1).1, (listP rdSum x.1 x.2.1).2)) (fun x => x.1) (n0, ⟨l9, b9⟩, []) (fun x => [(6, .int .i64 (x.1 : Int)), (5, .row 4 0 32 0 x.2.2.length)]) (fun x => [(1, .cells 117 [.ro (.u8 x.2.1.l), .bool x.2.1.bad]), (4, .row 23 (keysE x.2.2))]) [] [(4, none)] 1
  · intro x; exact rfl
  · intro x; exact rfl
  · exact rfl
  · exact rfl
  · (repeat' (first | exact AllP.nil | with_reducible refine AllP.cons ?_ ?_)) <;> first | with_reducible exact rfl | exact rfl | exact trivial | (intro _ _; simp [pureL, pureS, pureE]; done) | exact ⟨rfl, rfl, rfl, rfl⟩
  · refine ⟨?_, ?_⟩
    · dsimp only [List.length_nil]; omega
    · rw [← eg]; rfl
  · rintro ⟨n, s, acc⟩ ⟨x1, x2⟩
    obtain ⟨l, bad⟩ := s
    dsimp only at x1 x2 ⊢
    repeat' (first
        | ((with_reducible apply Sat.run (X := X64)); exact rfl; (first | exact True.intro | (exact phi) | skip))
        | ((with_reducible apply Sat.drawn); kernel_rfl)
        | ((with_reducible apply DSat.run (X := X64)); exact rfl; (first | exact True.intro | (exact phi) | skip))
        | ((with_reducible apply DSat.fin); kernel_rfl)
        | ((with_reducible apply Sat.cond_t); exact rfl)
        | ((with_reducible apply Sat.cond_f); exact rfl)
        | ((with_reducible apply Sat.cond_pt); exact rfl; (try dsimp only [V.EV.sub, V.EV.len]); first | assumption | omega)
        | ((with_reducible apply Sat.cond_pf); exact rfl; (try dsimp only [V.EV.sub, V.EV.len]); first | assumption | omega)
        | ((with_reducible apply Sat.cond_p); exact rfl; all_goals (intro h; (try simp only [V.EV.sub, V.EV.len] at h)))
        | ((with_reducible apply Sat.cond); exact rfl; all_goals (intro h; (try simp only [V.EV.sub, V.EV.len, Bool.cond_true_left, Bool.cond_false_right, Bool.or_eq_true, Bool.and_eq_true, Bool.or_eq_false_iff, Bool.and_eq_false_iff, Bool.not_eq_true', Bool.not_eq_false', decide_eq_true_eq, decide_eq_false_iff_not, ne_eq] at h)))
        | ((with_reducible apply Sat.mcall (sum_spec _ _)); exact rfl; exact rfl; kernel_rfl; (exact cnvX); exact rfl; exact purX; exact rfl; exact rfl)
        | ((with_reducible apply DSat.mcall (sum_spec _ _)); exact rfl; exact rfl; kernel_rfl; (exact cnvX); exact rfl; exact purX; exact rfl; exact rfl)
        | ((with_reducible apply Sat.out1 (C := ⟨_, _, _, _, _, _, _, _, _⟩)); exact rfl; (first | exact .inl rfl | exact .inr rfl); exact rfl; (exact phi); exact rfl)
        | ((with_reducible apply Sat.out0 (C := ⟨_, _, _, _, _, _, _, _, _⟩)); exact rfl; (first | exact .inl rfl | exact .inr rfl); exact rfl)
        | ((with_reducible apply Sat.out2 (C := ⟨_, _, _, _, _, _, _, _, _⟩)); exact rfl; (first | exact .inl rfl | exact .inr rfl); exact rfl; (exact phi); exact rfl; (exact phi); exact rfl) | fail)
    · obtain ⟨hn, hb⟩ : 0 < n ∧ bad = false := by revert h; cases bad <;> simp <;> omega
      refine Sat.back (n - 1, ⟨tkR l 32, tkB l bad 32⟩, acc ++ [hashO l]) [(4, some 6)] rfl ?_ ?_ ?_
      · (repeat' (first | exact AllP.nil | with_reducible refine AllP.cons ?_ ?_)) <;> first | with_reducible exact rfl | (show (n : Int) - 1 = ((n - 1 : Nat) : Int); omega) | (show acc.length + 1 = (acc ++ [hashO l]).length; simp; done) | exact sums_pure acc (hashO l) | (intro i hi; exact sums_snoc acc (hashO l) i hi) | (show _ = (acc ++ [hashO l]).length; simp [EV.len, EV.sub]; done) | (refine ⟨rfl, rfl, rfl, ?_⟩; show _ = (acc ++ [hashO l]).length; simp [EV.len, EV.sub]; done) | exact rfl | exact trivial | (intro _ _; simp [pureL, pureS, pureE]; done) | exact ⟨rfl, rfl, rfl, rfl⟩
      · refine ⟨by simp only [List.length_append, List.length_cons, List.length_nil]; omega, ?_⟩
        dsimp only
        rw [x2, listP_next rdSum n ⟨l, bad⟩ hn hb]
        simp only [List.append_assoc, List.cons_append, List.nil_append]
        rfl
      · dsimp only; omega
    · have hs : n = 0 ∨ bad = true := by revert h; cases bad <;> simp
      rw [listP_stop rdSum n ⟨l, bad⟩ hs, List.append_nil] at x2
      clear h hs
      have hN2 := numV_le l 1
      repeat' (first
          | ((with_reducible apply Sat.run (X := X64)); exact rfl; (first | exact True.intro | (exact phi) | skip))
          | ((with_reducible apply Sat.drawn); kernel_rfl)
          | ((with_reducible apply DSat.run (X := X64)); exact rfl; (first | exact True.intro | (exact phi) | skip))
          | ((with_reducible apply DSat.fin); kernel_rfl)
          | ((with_reducible apply Sat.inl 7 [] Tryd.func75 Tryd.ntmps75); exact rfl; exact rfl; kernel_rfl; exact rfl; exact rfl; exact rfl; exact rfl; ((repeat' (first | exact AllP.nil | with_reducible refine AllP.cons ?_ ?_)) <;> (first | exact True.intro | exact purX)); intro _ _)
          | ((with_reducible apply Sat.mcall (num1_rd _ _)); exact rfl; exact rfl; kernel_rfl; (exact cnvX); exact rfl; exact purX; exact rfl; exact rfl)
          | ((with_reducible apply DSat.mcall (num1_rd _ _)); exact rfl; exact rfl; kernel_rfl; (exact cnvX); exact rfl; exact purX; exact rfl; exact rfl) | fail)
      generalize eg2 : listP rdRole (numV (tkO l 1)) ⟨tkR l 1, tkB l bad 1⟩ = pp
      generalize en2 : numV (tkO l 1) = n2 at hN2 eg2 ⊢
      generalize eq3 : tkR l 1 = l10 at eg2 ⊢
      generalize eq4 : tkB l bad 1 = b10 at eg2 ⊢
      apply Sat.loop (α := Nat × RdS × List RoleL) (fun x => x.1 + x.2.2.length < 256 ∧ pp = (x.2.2 ++ (listP rdRole x.1 x.2.1).1, (listP rdRole x.1 x.2.1).2)) (fun x => x.1) (n2, ⟨l10, b10⟩, []) (fun x => [(6, .int .i64 (x.1 : Int)), (5, .row 5 0 3 0 x.2.2.length)]) (fun x => [(1, .cells 117 [.ro (.u8 x.2.1.l), .bool x.2.1.bad]), (5, .row 68 (rolesE x.2.2))]) [] [(5, none)] 1
      · intro x; exact rfl
      · intro x; exact rfl
      · exact rfl
      · exact rfl
      · (repeat' (first | exact AllP.nil | with_reducible refine AllP.cons ?_ ?_)) <;> first | with_reducible exact rfl | exact rfl | exact trivial | (intro _ _; simp [pureL, pureS, pureE]; done) | exact ⟨rfl, rfl, rfl, rfl⟩
      · refine ⟨?_, ?_⟩
        · dsimp only [List.length_nil]; omega
        · rw [← eg2]; rfl
      · rintro ⟨m, s, pa⟩ ⟨y1, y2⟩
        obtain ⟨k, bd⟩ := s
        dsimp only at y1 y2 ⊢
        have ht := take_spec (tkR k 1) (tkB k bd 1) (numV (tkO k 1))
        have hN3 := numV_le (tkR (tkR k 1) (numV (tkO k 1))) 1
        repeat' (first
            | ((with_reducible apply Sat.run (X := X64)); exact rfl; (first | exact True.intro | (exact phi) | skip))
            | ((with_reducible apply Sat.drawn); kernel_rfl)
            | ((with_reducible apply DSat.run (X := X64)); exact rfl; (first | exact True.intro | (exact phi) | skip))
            | ((with_reducible apply DSat.fin); kernel_rfl)
            | ((with_reducible apply Sat.cond_t); exact rfl)
            | ((with_reducible apply Sat.cond_f); exact rfl)
            | ((with_reducible apply Sat.cond_pt); exact rfl; (try dsimp only [V.EV.sub, V.EV.len]); first | assumption | omega)
            | ((with_reducible apply Sat.cond_pf); exact rfl; (try dsimp only [V.EV.sub, V.EV.len]); first | assumption | omega)
            | ((with_reducible apply Sat.cond_p); exact rfl; all_goals (intro h; (try simp only [V.EV.sub, V.EV.len] at h)))
            | ((with_reducible apply Sat.cond); exact rfl; all_goals (intro h; (try simp only [V.EV.sub, V.EV.len, Bool.cond_true_left, Bool.cond_false_right, Bool.or_eq_true, Bool.and_eq_true, Bool.or_eq_false_iff, Bool.and_eq_false_iff, Bool.not_eq_true', Bool.not_eq_false', decide_eq_true_eq, decide_eq_false_iff_not, ne_eq] at h)))
            | ((with_reducible apply Sat.inl 7 [] Tryd.func76 Tryd.ntmps76); exact rfl; exact rfl; kernel_rfl; exact rfl; exact rfl; exact rfl; exact rfl; ((repeat' (first | exact AllP.nil | with_reducible refine AllP.cons ?_ ?_)) <;> (first | exact True.intro | exact purX)); intro _ _)
            | ((with_reducible apply Sat.mcall (num1_rd k bd)); exact rfl; exact rfl; kernel_rfl; (exact cnvX); exact rfl; exact purX; exact rfl; exact rfl)
            | ((with_reducible apply DSat.mcall (num1_rd k bd)); exact rfl; exact rfl; kernel_rfl; (exact cnvX); exact rfl; exact purX; exact rfl; exact rfl)
            | ((with_reducible apply Sat.mcall (ht)); exact rfl; exact rfl; kernel_rfl; (exact cnvX); exact rfl; exact purX; exact rfl; exact rfl)
            | ((with_reducible apply DSat.mcall (ht)); exact rfl; exact rfl; kernel_rfl; (exact cnvX); exact rfl; exact purX; exact rfl; exact rfl) | fail)
        · obtain ⟨hm1, hm2⟩ : 0 < m ∧ bd = false := by revert h; cases bd <;> simp <;> omega
          clear h
          repeat' (first
              | ((with_reducible apply Sat.run (X := X64)); exact rfl; (first | exact True.intro | (exact phi) | skip))
              | ((with_reducible apply Sat.drawn); kernel_rfl)
              | ((with_reducible apply DSat.run (X := X64)); exact rfl; (first | exact True.intro | (exact phi) | skip))
              | ((with_reducible apply DSat.fin); kernel_rfl)
              | ((with_reducible apply Sat.inl 7 [] Tryd.func69 Tryd.ntmps69); exact rfl; exact rfl; kernel_rfl; exact rfl; exact rfl; exact rfl; exact rfl; ((repeat' (first | exact AllP.nil | with_reducible refine AllP.cons ?_ ?_)) <;> (first | exact True.intro | exact purX)); intro _ _)
              | ((with_reducible apply Sat.mcall (num1_rd _ _)); exact rfl; exact rfl; kernel_rfl; (exact cnvX); exact rfl; exact purX; exact rfl; exact rfl)
              | ((with_reducible apply DSat.mcall (num1_rd _ _)); exact rfl; exact rfl; kernel_rfl; (exact cnvX); exact rfl; exact purX; exact rfl; exact rfl) | fail)
          generalize eg3 : listP rdInt1 (numV (tkO (tkR (tkR k 1) (numV (tkO k 1))) 1)) ⟨tkR (tkR (tkR k 1) (numV (tkO k 1))) 1, tkB (tkR (tkR k 1) (numV (tkO k 1))) (tkB (tkR k 1) (tkB k bd 1) (numV (tkO k 1))) 1⟩ = kp
          generalize en3 : numV (tkO (tkR (tkR k 1) (numV (tkO k 1))) 1) = n3 at hN3 eg3 ⊢
          generalize eq5 : tkR (tkR (tkR k 1) (numV (tkO k 1))) 1 = l11 at eg3 ⊢
          generalize eq6 : tkB (tkR (tkR k 1) (numV (tkO k 1))) (tkB (tkR k 1) (tkB k bd 1) (numV (tkO k 1))) 1 = b11 at eg3 ⊢
          apply Sat.loop (α := Nat × RdS × List Int) (fun x => x.1 + x.2.2.length < 256 ∧ kp = (x.2.2 ++ (listP rdInt1 x.1 x.2.1).1, (listP rdInt1 x.1 x.2.1).2)) (fun x => x.1) (n3, ⟨l11, b11⟩, []) (fun x => [(6, .int .i64 (x.1 : Int)), (5, .row 7 0 1 0 x.2.2.length)]) (fun x => [(1, .cells 117 [.ro (.u8 x.2.1.l), .bool x.2.1.bad]), (7, .row 3 (.ints .i64 x.2.2))]) [] [(7, none)] 1
          · intro x; exact rfl
          · intro x; exact rfl
          · exact rfl
          · exact rfl
          · (repeat' (first | exact AllP.nil | with_reducible refine AllP.cons ?_ ?_)) <;> first | with_reducible exact rfl | exact rfl | exact trivial | (intro _ _; simp [pureL, pureS, pureE]; done) | exact ⟨rfl, rfl, rfl, rfl⟩
          · refine ⟨?_, ?_⟩
            · dsimp only [List.length_nil]; omega
            · rw [← eg3]; rfl
          · rintro ⟨j, s, kk⟩ ⟨z1, z2⟩
            obtain ⟨l3, b3⟩ := s
            dsimp only at z1 z2 ⊢
            repeat' (first
                | ((with_reducible apply Sat.run (X := X64)); exact rfl; (first | exact True.intro | (exact phi) | skip))
                | ((with_reducible apply Sat.drawn); kernel_rfl)
                | ((with_reducible apply DSat.run (X := X64)); exact rfl; (first | exact True.intro | (exact phi) | skip))
                | ((with_reducible apply DSat.fin); kernel_rfl)
                | ((with_reducible apply Sat.cond_t); exact rfl)
                | ((with_reducible apply Sat.cond_f); exact rfl)
                | ((with_reducible apply Sat.cond_pt); exact rfl; (try dsimp only [V.EV.sub, V.EV.len]); first | assumption | omega)
                | ((with_reducible apply Sat.cond_pf); exact rfl; (try dsimp only [V.EV.sub, V.EV.len]); first | assumption | omega)
                | ((with_reducible apply Sat.cond_p); exact rfl; all_goals (intro h; (try simp only [V.EV.sub, V.EV.len] at h)))
                | ((with_reducible apply Sat.cond); exact rfl; all_goals (intro h; (try simp only [V.EV.sub, V.EV.len, Bool.cond_true_left, Bool.cond_false_right, Bool.or_eq_true, Bool.and_eq_true, Bool.or_eq_false_iff, Bool.and_eq_false_iff, Bool.not_eq_true', Bool.not_eq_false', decide_eq_true_eq, decide_eq_false_iff_not, ne_eq] at h)))
                | ((with_reducible apply Sat.inl 7 [] Tryd.func77 Tryd.ntmps77); exact rfl; exact rfl; kernel_rfl; exact rfl; exact rfl; exact rfl; exact rfl; ((repeat' (first | exact AllP.nil | with_reducible refine AllP.cons ?_ ?_)) <;> (first | exact True.intro | exact purX)); intro _ _) | fail)
            · obtain ⟨hn, hb⟩ : 0 < j ∧ b3 = false := by revert h; cases b3 <;> simp <;> omega
              repeat' (first
                  | ((with_reducible apply Sat.run (X := X64)); exact rfl; (first | exact True.intro | (exact phi) | skip))
                  | ((with_reducible apply Sat.drawn); kernel_rfl)
                  | ((with_reducible apply DSat.run (X := X64)); exact rfl; (first | exact True.intro | (exact phi) | skip))
                  | ((with_reducible apply DSat.fin); kernel_rfl)
                  | ((with_reducible apply Sat.mcall (num1_rd _ _)); exact rfl; exact rfl; kernel_rfl; (exact cnvX); exact rfl; exact purX; exact rfl; exact rfl)
                  | ((with_reducible apply DSat.mcall (num1_rd _ _)); exact rfl; exact rfl; kernel_rfl; (exact cnvX); exact rfl; exact purX; exact rfl; exact rfl)
                  | ((with_reducible apply Sat.out1 (C := ⟨_, _, _, _, _, _, _, _, _⟩)); exact rfl; (first | exact .inl rfl | exact .inr rfl); exact rfl; (exact phi); exact rfl)
                  | ((with_reducible apply Sat.out0 (C := ⟨_, _, _, _, _, _, _, _, _⟩)); exact rfl; (first | exact .inl rfl | exact .inr rfl); exact rfl)
                  | ((with_reducible apply Sat.out2 (C := ⟨_, _, _, _, _, _, _, _, _⟩)); exact rfl; (first | exact .inl rfl | exact .inr rfl); exact rfl; (exact phi); exact rfl; (exact phi); exact rfl) | fail)
              refine Sat.back (j - 1, ⟨tkR l3 1, tkB l3 b3 1⟩, kk ++ [(numV (tkO l3 1) : Int)]) [(7, some 9)] rfl ?_ ?_ ?_
              · (repeat' (first | exact AllP.nil | with_reducible refine AllP.cons ?_ ?_)) <;> first | with_reducible exact rfl | (show (j : Int) - 1 = ((j - 1 : Nat) : Int); omega) | (show _ = (kk ++ [(numV (tkO l3 1) : Int)]).length; simp [EV.len, EV.sub]; done) | (refine ⟨rfl, rfl, rfl, ?_⟩; show _ = (kk ++ [(numV (tkO l3 1) : Int)]).length; simp [EV.len, EV.sub]; done) | exact rfl | exact trivial | (intro _ _; simp [pureL, pureS, pureE]; done) | exact ⟨rfl, rfl, rfl, rfl⟩
              · refine ⟨by simp only [List.length_append, List.length_cons, List.length_nil]; omega, ?_⟩
                dsimp only
                rw [z2, listP_next rdInt1 j ⟨l3, b3⟩ hn hb]
                simp only [List.append_assoc, List.cons_append, List.nil_append]
                rfl
              · dsimp only; omega
            · have hs : j = 0 ∨ b3 = true := by revert h; cases b3 <;> simp
              rw [listP_stop rdInt1 j ⟨l3, b3⟩ hs, List.append_nil] at z2
              clear h hs
              repeat' (first
                  | ((with_reducible apply Sat.run (X := X64)); exact rfl; (first | exact True.intro | (exact phi) | skip))
                  | ((with_reducible apply Sat.drawn); kernel_rfl)
                  | ((with_reducible apply DSat.run (X := X64)); exact rfl; (first | exact True.intro | (exact phi) | skip))
                  | ((with_reducible apply DSat.fin); kernel_rfl)
                  | ((with_reducible apply Sat.cond_t); exact rfl)
                  | ((with_reducible apply Sat.cond_f); exact rfl)
                  | ((with_reducible apply Sat.cond_pt); exact rfl; (try dsimp only [V.EV.sub, V.EV.len]); first | assumption | omega)
                  | ((with_reducible apply Sat.cond_pf); exact rfl; (try dsimp only [V.EV.sub, V.EV.len]); first | assumption | omega)
                  | ((with_reducible apply Sat.cond_p); exact rfl; all_goals intro h)
                  | ((with_reducible apply Sat.cond); exact rfl; all_goals intro h)
                  | ((with_reducible apply Sat.out1 (C := ⟨_, _, _, _, _, _, _, _, _⟩)); exact rfl; (first | exact .inl rfl | exact .inr rfl); exact rfl; (exact phi); exact rfl)
                  | ((with_reducible apply Sat.out0 (C := ⟨_, _, _, _, _, _, _, _, _⟩)); exact rfl; (first | exact .inl rfl | exact .inr rfl); exact rfl)
                  | ((with_reducible apply Sat.out2 (C := ⟨_, _, _, _, _, _, _, _, _⟩)); exact rfl; (first | exact .inl rfl | exact .inr rfl); exact rfl; (exact phi); exact rfl; (exact phi); exact rfl) | fail)
              refine Sat.freezeR true 7 rfl ?_ ?_
              · (repeat' (first | exact AllP.nil | with_reducible refine AllP.cons ?_ ?_)) <;> first | exact rfl | exact trivial | exact .inl ⟨rfl, rfl, rfl⟩ | (intro _ _; simp [pureL, pureS, pureE]; done) | (intro _ _; exact rfl) | (intro _; exact rfl) | (intro _; exact trivial) | (intro _; exact .inl ⟨rfl, rfl, rfl⟩) | (intro _ _ _; simp [pureL, pureS, pureE]; done) | exact ⟨rfl, rfl, rfl, rfl⟩ | (intro _; exact ⟨rfl, rfl, rfl, rfl⟩)
              repeat' (first
                  | ((with_reducible apply Sat.run (X := X64)); exact rfl; (first | exact True.intro | (exact phi) | skip))
                  | ((with_reducible apply Sat.drawn); kernel_rfl)
                  | ((with_reducible apply DSat.run (X := X64)); exact rfl; (first | exact True.intro | (exact phi) | skip))
                  | ((with_reducible apply DSat.fin); kernel_rfl)
                  | ((with_reducible apply Sat.cond_t); exact rfl)
                  | ((with_reducible apply Sat.cond_f); exact rfl)
                  | ((with_reducible apply Sat.cond_pt); exact rfl; (try dsimp only [V.EV.sub, V.EV.len]); first | assumption | omega)
                  | ((with_reducible apply Sat.cond_pf); exact rfl; (try dsimp only [V.EV.sub, V.EV.len]); first | assumption | omega)
                  | ((with_reducible apply Sat.cond_p); exact rfl; all_goals intro h)
                  | ((with_reducible apply Sat.cond); exact rfl; all_goals intro h)
                  | ((with_reducible apply Sat.mcall (num1_rd _ _)); exact rfl; exact rfl; kernel_rfl; (exact cnvX); exact rfl; exact purX; exact rfl; exact rfl)
                  | ((with_reducible apply DSat.mcall (num1_rd _ _)); exact rfl; exact rfl; kernel_rfl; (exact cnvX); exact rfl; exact purX; exact rfl; exact rfl)
                  | ((with_reducible apply Sat.out1 (C := ⟨_, _, _, _, _, _, _, _, _⟩)); exact rfl; (first | exact .inl rfl | exact .inr rfl); exact rfl; (exact phi); exact rfl)
                  | ((with_reducible apply Sat.out0 (C := ⟨_, _, _, _, _, _, _, _, _⟩)); exact rfl; (first | exact .inl rfl | exact .inr rfl); exact rfl)
                  | ((with_reducible apply Sat.out2 (C := ⟨_, _, _, _, _, _, _, _, _⟩)); exact rfl; (first | exact .inl rfl | exact .inr rfl); exact rfl; (exact phi); exact rfl; (exact phi); exact rfl) | fail)
              refine Sat.back (m - 1, ⟨tkR l3 1, tkB l3 b3 1⟩, pa ++ [(⟨tkO (tkR k 1) (numV (tkO k 1)), kk, (numV (tkO l3 1) : Int)⟩ : RoleL)]) [(5, some 9)] rfl ?_ ?_ ?_
              · (repeat' (first | exact AllP.nil | with_reducible refine AllP.cons ?_ ?_)) <;> first | with_reducible exact rfl | (show (m : Int) - 1 = ((m - 1 : Nat) : Int); omega) | (show pa.length + 1 = (pa ++ [(⟨tkO (tkR k 1) (numV (tkO k 1)), kk, (numV (tkO l3 1) : Int)⟩ : RoleL)]).length; simp; done) | exact roles_pure pa (⟨tkO (tkR k 1) (numV (tkO k 1)), kk, (numV (tkO l3 1) : Int)⟩ : RoleL) | (intro i hi; exact roles_snoc pa (⟨tkO (tkR k 1) (numV (tkO k 1)), kk, (numV (tkO l3 1) : Int)⟩ : RoleL) i hi) | (show _ = (pa ++ [(⟨tkO (tkR k 1) (numV (tkO k 1)), kk, (numV (tkO l3 1) : Int)⟩ : RoleL)]).length; simp [EV.len, EV.sub]; done) | (refine ⟨rfl, rfl, rfl, ?_⟩; show _ = (pa ++ [(⟨tkO (tkR k 1) (numV (tkO k 1)), kk, (numV (tkO l3 1) : Int)⟩ : RoleL)]).length; simp [EV.len, EV.sub]; done) | exact rfl | exact trivial | (intro _ _; simp [pureL, pureS, pureE]; done) | exact ⟨rfl, rfl, rfl, rfl⟩
              · refine ⟨by simp only [List.length_append, List.length_cons, List.length_nil]; omega, ?_⟩
                dsimp only
                have z3 : rdRole ⟨k, bd⟩ = ((⟨tkO (tkR k 1) (numV (tkO k 1)), kk, (numV (tkO l3 1) : Int)⟩ : RoleL), ⟨tkR l3 1, tkB l3 b3 1⟩) := by
                  subst en3 eq5 eq6 eg3
                  have z4 : keysP ⟨(tkR (tkR k 1) (numV (tkO k 1))), (tkB (tkR k 1) (tkB k bd 1) (numV (tkO k 1)))⟩ = (kk, ⟨l3, b3⟩) := z2
                  unfold rdRole
                  dsimp only
                  rw [z4]
                rw [y2, listP_next rdRole m ⟨k, bd⟩ hm1 hm2, z3]
                simp only [List.append_assoc, List.cons_append, List.nil_append]
              · dsimp only; omega
        · have hs : m = 0 ∨ bd = true := by revert h; cases bd <;> simp
          rw [listP_stop rdRole m ⟨k, bd⟩ hs, List.append_nil] at y2
          clear h hs ht hN3
          have hq : okLen b.length := hf.1.1
          have hP : parseQ b = ⟨ng, ne, acc, pa⟩ := by
            subst en2 eq3 eq4 eg2 en eq1 eq2 eg el eb eng ene
            have x3 : sumsP (hd3 b) = (acc, ⟨l, bad⟩) := x2
            have y3 : rolesP ⟨l, bad⟩ = (pa, ⟨k, bd⟩) := y2
            unfold parseQ
            rw [x3]
            dsimp only
            rw [y3]
          by_cases hb0 : b = []
          · have hgd : ¬ (decide (((EV.u8 b).len : Int) = 0) = false) := fun h => of_decide_eq_false h (by rw [hb0]; rfl)
            have hl0 : decide (((EV.u8 b).len : Int) = 0) = true := by rw [hb0]; rfl
            have hok : okQ b = false := by unfold okQ; rw [decide_eq_true hb0]; rfl
            repeat' (first
                | ((with_reducible apply Sat.run (X := X64)); exact rfl; (first | exact True.intro | (exact phi) | skip))
                | ((with_reducible apply Sat.drawn); kernel_rfl)
                | ((with_reducible apply DSat.run (X := X64)); exact rfl; (first | exact True.intro | (exact phi) | skip))
                | ((with_reducible apply DSat.fin); kernel_rfl)
                | ((with_reducible apply Sat.cond_t); exact rfl)
                | ((with_reducible apply Sat.cond_f); exact rfl)
                | ((with_reducible apply Sat.cond_pt); exact rfl; (try dsimp only [V.EV.sub, V.EV.len]); first | assumption | omega)
                | ((with_reducible apply Sat.cond_pf); exact rfl; (try dsimp only [V.EV.sub, V.EV.len]); first | assumption | omega)
                | ((with_reducible apply Sat.cond_p); exact rfl; all_goals intro h)
                | ((with_reducible apply Sat.cond); exact rfl; all_goals intro h)
                | ((with_reducible apply Sat.out1 (C := ⟨_, _, _, _, _, _, _, _, _⟩)); exact rfl; (first | exact .inl rfl | exact .inr rfl); exact rfl; (exact phi); exact rfl)
                | ((with_reducible apply Sat.out0 (C := ⟨_, _, _, _, _, _, _, _, _⟩)); exact rfl; (first | exact .inl rfl | exact .inr rfl); exact rfl)
                | ((with_reducible apply Sat.out2 (C := ⟨_, _, _, _, _, _, _, _, _⟩)); exact rfl; (first | exact .inl rfl | exact .inr rfl); exact rfl; (exact phi); exact rfl; (exact phi); exact rfl)
                | ((with_reducible apply Sat.goffM (.bool true)); exact rfl; exact hgd; exact rfl) | fail)
            · (refine Sat.fin (Sat.end2 rfl rfl rfl rfl True.intro True.intro (.agg _ _ (.cons _ _ _ _ (.refl _ trivial) (.cons _ _ _ _ (.refl _ trivial) (.cons _ _ _ _ (.nils (keysE []) rfl) (.cons _ _ _ _ (.nils (rolesE []) rfl) .nil))))) (.refl _ trivial) (by first | exact .inl rfl | exact .inr rfl) (fun _ h => h)) ?_; rw [hok]; rfl)
            · exfalso
              rw [hl0] at h
              cases h
          · have hgd : decide (((EV.u8 b).len : Int) = 0) = false := decide_eq_false fun e => hb0 (List.eq_nil_of_length_eq_zero (by simp only [EV.len] at e; omega))
            repeat' (first
                | ((with_reducible apply Sat.run (X := X64)); exact rfl; (first | exact True.intro | (exact phi) | skip))
                | ((with_reducible apply Sat.drawn); kernel_rfl)
                | ((with_reducible apply DSat.run (X := X64)); exact rfl; (first | exact True.intro | (exact phi) | skip))
                | ((with_reducible apply DSat.fin); kernel_rfl)
                | ((with_reducible apply Sat.cond_t); exact rfl)
                | ((with_reducible apply Sat.cond_f); exact rfl)
                | ((with_reducible apply Sat.cond_pt); exact rfl; (try dsimp only [V.EV.sub, V.EV.len]); first | assumption | omega)
                | ((with_reducible apply Sat.cond_pf); exact rfl; (try dsimp only [V.EV.sub, V.EV.len]); first | assumption | omega)
                | ((with_reducible apply Sat.cond_p); exact rfl; all_goals intro h)
                | ((with_reducible apply Sat.cond); exact rfl; all_goals intro h)
                | ((with_reducible apply Sat.out1 (C := ⟨_, _, _, _, _, _, _, _, _⟩)); exact rfl; (first | exact .inl rfl | exact .inr rfl); exact rfl; (exact phi); exact rfl)
                | ((with_reducible apply Sat.out0 (C := ⟨_, _, _, _, _, _, _, _, _⟩)); exact rfl; (first | exact .inl rfl | exact .inr rfl); exact rfl)
                | ((with_reducible apply Sat.out2 (C := ⟨_, _, _, _, _, _, _, _, _⟩)); exact rfl; (first | exact .inl rfl | exact .inr rfl); exact rfl; (exact phi); exact rfl; (exact phi); exact rfl)
                | ((with_reducible apply Sat.gon); exact rfl; exact hgd) | fail)
            refine Sat.freezeR true 4 rfl ?_ ?_
            · (repeat' (first | exact AllP.nil | with_reducible refine AllP.cons ?_ ?_)) <;> first | exact rfl | exact trivial | exact .inl ⟨rfl, rfl, rfl⟩ | (intro _ _; simp [pureL, pureS, pureE]; done) | (intro _ _; exact rfl) | (intro _; exact rfl) | (intro _; exact trivial) | (intro _; exact .inl ⟨rfl, rfl, rfl⟩) | (intro _ _ _; simp [pureL, pureS, pureE]; done) | exact ⟨rfl, rfl, rfl, rfl⟩ | (intro _; exact ⟨rfl, rfl, rfl, rfl⟩)
            refine Sat.freezeR true 5 rfl ?_ ?_
            · (repeat' (first | exact AllP.nil | with_reducible refine AllP.cons ?_ ?_)) <;> first | exact rfl | exact trivial | exact .inl ⟨rfl, rfl, rfl⟩ | (intro _ _; simp [pureL, pureS, pureE]; done) | (intro _ _; exact rfl) | (intro _; exact rfl) | (intro _; exact trivial) | (intro _; exact .inl ⟨rfl, rfl, rfl⟩) | (intro _ _ _; simp [pureL, pureS, pureE]; done) | exact ⟨rfl, rfl, rfl, rfl⟩ | (intro _; exact ⟨rfl, rfl, rfl, rfl⟩)
            by_cases hv : rootB ⟨ng, ne, acc, pa⟩ = true
            · have p1 := rootBytes_spec ⟨ng, ne, acc, pa⟩ hv
              have p2 := equal_spec (bytesQ ⟨ng, ne, acc, pa⟩) b
              by_cases he : bytesQ ⟨ng, ne, acc, pa⟩ = b
              · rw [decide_eq_true he] at p2
                have hok : okQ b = true := by unfold okQ; rw [hP, hv, decide_eq_true he, decide_eq_false hb0]; rfl
                repeat' (first
                    | ((with_reducible apply Sat.run (X := X64)); exact rfl; (first | exact True.intro | (exact phi) | skip))
                    | ((with_reducible apply Sat.drawn); kernel_rfl)
                    | ((with_reducible apply DSat.run (X := X64)); exact rfl; (first | exact True.intro | (exact phi) | skip))
                    | ((with_reducible apply DSat.fin); kernel_rfl)
                    | ((with_reducible apply Sat.cond_t); exact rfl)
                    | ((with_reducible apply Sat.cond_f); exact rfl)
                    | ((with_reducible apply Sat.cond_pt); exact rfl; (try dsimp only [V.EV.sub, V.EV.len]); first | assumption | omega)
                    | ((with_reducible apply Sat.cond_pf); exact rfl; (try dsimp only [V.EV.sub, V.EV.len]); first | assumption | omega)
                    | ((with_reducible apply Sat.cond_p); exact rfl; all_goals intro h)
                    | ((with_reducible apply Sat.cond); exact rfl; all_goals intro h)
                    | ((with_reducible apply Sat.gon); exact rfl; exact hgd)
                    | ((with_reducible apply Sat.call (p1)); exact rfl; exact rfl; kernel_rfl; (exact cnvX); exact rfl)
                    | ((with_reducible apply DSat.call (p1)); exact rfl; exact rfl; kernel_rfl; (exact cnvX); exact rfl)
                    | ((with_reducible apply Sat.callR (p2)); exact rfl; exact rfl; exact rfl; kernel_rfl; (exact cnvX); exact rfl)
                    | ((with_reducible apply DSat.callR (p2)); exact rfl; exact rfl; exact rfl; kernel_rfl; (exact cnvX); exact rfl) | fail)
                · exfalso; rw [hgd] at h; cases h
                · (refine Sat.fin (Sat.end2 rfl rfl rfl rfl True.intro True.intro (.refl _ (by (repeat' (first | exact True.intro | (intro _ _; simp [pureL, pureS, pureE]; done) | apply And.intro)))) (.refl _ trivial) (by first | exact .inl rfl | exact .inr rfl) (fun _ h => h)) ?_; rw [hok, hP]; rfl)
              · rw [decide_eq_false he] at p2
                have hok : okQ b = false := by unfold okQ; rw [hP, decide_eq_false he]; simp
                repeat' (first
                    | ((with_reducible apply Sat.run (X := X64)); exact rfl; (first | exact True.intro | (exact phi) | skip))
                    | ((with_reducible apply Sat.drawn); kernel_rfl)
                    | ((with_reducible apply DSat.run (X := X64)); exact rfl; (first | exact True.intro | (exact phi) | skip))
                    | ((with_reducible apply DSat.fin); kernel_rfl)
                    | ((with_reducible apply Sat.cond_t); exact rfl)
                    | ((with_reducible apply Sat.cond_f); exact rfl)
                    | ((with_reducible apply Sat.cond_pt); exact rfl; (try dsimp only [V.EV.sub, V.EV.len]); first | assumption | omega)
                    | ((with_reducible apply Sat.cond_pf); exact rfl; (try dsimp only [V.EV.sub, V.EV.len]); first | assumption | omega)
                    | ((with_reducible apply Sat.cond_p); exact rfl; all_goals intro h)
                    | ((with_reducible apply Sat.cond); exact rfl; all_goals intro h)
                    | ((with_reducible apply Sat.gon); exact rfl; exact hgd)
                    | ((with_reducible apply Sat.call (p1)); exact rfl; exact rfl; kernel_rfl; (exact cnvX); exact rfl)
                    | ((with_reducible apply DSat.call (p1)); exact rfl; exact rfl; kernel_rfl; (exact cnvX); exact rfl)
                    | ((with_reducible apply Sat.callR (p2)); exact rfl; exact rfl; exact rfl; kernel_rfl; (exact cnvX); exact rfl)
                    | ((with_reducible apply DSat.callR (p2)); exact rfl; exact rfl; exact rfl; kernel_rfl; (exact cnvX); exact rfl) | fail)
                · (refine Sat.fin (Sat.end2 rfl rfl rfl rfl True.intro True.intro (.agg _ _ (.cons _ _ _ _ (.refl _ trivial) (.cons _ _ _ _ (.refl _ trivial) (.cons _ _ _ _ (.nils (keysE []) rfl) (.cons _ _ _ _ (.nils (rolesE []) rfl) .nil))))) (.refl _ trivial) (by first | exact .inl rfl | exact .inr rfl) (fun _ h => h)) ?_; rw [hok]; rfl)
                · exfalso; rw [hgd] at h; cases h
            · have hv' : rootB ⟨ng, ne, acc, pa⟩ = false := by simpa using hv
              have p1 := rootBytes_f ⟨ng, ne, acc, pa⟩ hv'
              have p2 := equal_spec [] b
              rw [decide_eq_false (fun e : [] = b => hb0 e.symm)] at p2
              have hok : okQ b = false := by unfold okQ; rw [hP, hv']; simp
              repeat' (first
                  | ((with_reducible apply Sat.run (X := X64)); exact rfl; (first | exact True.intro | (exact phi) | skip))
                  | ((with_reducible apply Sat.drawn); kernel_rfl)
                  | ((with_reducible apply DSat.run (X := X64)); exact rfl; (first | exact True.intro | (exact phi) | skip))
                  | ((with_reducible apply DSat.fin); kernel_rfl)
                  | ((with_reducible apply Sat.cond_t); exact rfl)
                  | ((with_reducible apply Sat.cond_f); exact rfl)
                  | ((with_reducible apply Sat.cond_pt); exact rfl; (try dsimp only [V.EV.sub, V.EV.len]); first | assumption | omega)
                  | ((with_reducible apply Sat.cond_pf); exact rfl; (try dsimp only [V.EV.sub, V.EV.len]); first | assumption | omega)
                  | ((with_reducible apply Sat.cond_p); exact rfl; all_goals intro h)
                  | ((with_reducible apply Sat.cond); exact rfl; all_goals intro h)
                  | ((with_reducible apply Sat.gon); exact rfl; exact hgd)
                  | ((with_reducible apply Sat.call (p1)); exact rfl; exact rfl; kernel_rfl; (exact cnvX); exact rfl)
                  | ((with_reducible apply DSat.call (p1)); exact rfl; exact rfl; kernel_rfl; (exact cnvX); exact rfl)
                  | ((with_reducible apply Sat.callR (p2)); exact rfl; exact rfl; exact rfl; kernel_rfl; (exact cnvX); exact rfl)
                  | ((with_reducible apply DSat.callR (p2)); exact rfl; exact rfl; exact rfl; kernel_rfl; (exact cnvX); exact rfl) | fail)
              · (refine Sat.fin (Sat.end2 rfl rfl rfl rfl True.intro True.intro (.agg _ _ (.cons _ _ _ _ (.refl _ trivial) (.cons _ _ _ _ (.refl _ trivial) (.cons _ _ _ _ (.nils (keysE []) rfl) (.cons _ _ _ _ (.nils (rolesE []) rfl) .nil))))) (.refl _ trivial) (by first | exact .inl rfl | exact .inr rfl) (fun _ h => h)) ?_; rw [hok]; rfl)
              · exfalso; rw [hgd] at h; cases h
end Go.Proofs.YtegbdcadlmefgaaDoor
end
section
namespace Go.Proofs.YtegbdcadlmefgaaDoor
open Go.RowKit V
set_option maxRecDepth 100000
set_option maxHeartbeats 1000000
set_option linter.unusedSimpArgs false
theorem wrap_u8 (x : Int) : IntKind.u8.wrap x = x % 256 := by
  simp [IntKind.wrap, IntKind.bits, IntKind.signed]
theorem nb_toNat (n k : Nat) : (nb (n : Int) k).toNat = n / 2 ^ k % 256 := by
  unfold nb
  rw [wrap_u8]
  have e : ((n : Int) / 2 ^ k % 256).toNat = n / 2 ^ k % 256 := by
    rw [show (2 : Int) ^ k = ((2 ^ k : Nat) : Int) by simp, ← Int.natCast_ediv]
    omega
  rw [e, UInt8.toNat_ofNat_of_lt' (by show _ < 256; omega)]
theorem numV_num1 (n : Nat) (h : n < 256) : numV (num1 (n : Int)) = n := by
  simp only [numV, num1, List.foldl, nb_toNat]
  omega
theorem numV_num2 (n : Nat) (h : n < 65536) : numV (num2 (n : Int)) = n := by
  simp only [numV, num2, List.foldl, nb_toNat]
  omega
theorem numV_num4 (n : Nat) (h : n < 4294967296) : numV (num4 (n : Int)) = n := by
  simp only [numV, num4, List.foldl, nb_toNat]
  omega
theorem numV1 (n : Int) (h0 : 0 ≤ n) (h : n < 256) : (numV (num1 n) : Int) = n := by
  have := numV_num1 n.toNat (by omega)
  rw [Int.toNat_of_nonneg h0] at this
  omega
theorem numV2 (n : Int) (h0 : 0 ≤ n) (h : n < 65536) : (numV (num2 n) : Int) = n := by
  have := numV_num2 n.toNat (by omega)
  rw [Int.toNat_of_nonneg h0] at this
  omega
theorem numV4 (n : Int) (h0 : 0 ≤ n) (h : n < 4294967296) : (numV (num4 n) : Int) = n := by
  have := numV_num4 n.toNat (by omega)
  rw [Int.toNat_of_nonneg h0] at this
  omega
theorem tkO_app {m : List UInt8} {n : Nat} (h : m.length = n) (r : List UInt8) : tkO (m ++ r) n = m := by
  subst h
  unfold tkO
  rw [if_pos (by simp)]
  simp
theorem tkR_app {m : List UInt8} {n : Nat} (h : m.length = n) (r : List UInt8) : tkR (m ++ r) n = r := by
  subst h
  unfold tkR
  rw [if_pos (by simp)]
  simp
theorem tkB_app {m : List UInt8} {n : Nat} (h : m.length = n) (r : List UInt8) (bad : Bool) : tkB (m ++ r) bad n = bad := by
  subst h
  unfold tkB
  rw [if_pos (by simp)]
theorem hashO_app {m : List UInt8} (h : m.length = 32) (r : List UInt8) : hashO (m ++ r) = m := by
  unfold hashO
  rw [if_pos (by simp; omega), ← h]
  simp
attribute [local irreducible] tkO tkR tkB numV hashO
theorem listP_enc {α : Type} (rd : RdS → α × RdS) (enc : α → List UInt8) (Q : α → Prop) (h : ∀ x rest, Q x → rd ⟨enc x ++ rest, false⟩ = (x, ⟨rest, false⟩)) : ∀ (xs : List α) (rest : List UInt8), (∀ x ∈ xs, Q x) → listP rd xs.length ⟨xs.flatMap enc ++ rest, false⟩ = (xs, ⟨rest, false⟩)
  | [], rest, _ => rfl
  | x :: xs, rest, hq => by
    have ih := listP_enc rd enc Q h xs rest fun y hy => hq y (List.mem_cons_of_mem _ hy)
    have h1 := h x (xs.flatMap enc ++ rest) (hq x (List.mem_cons_self ..))
    simp only [List.flatMap_cons, List.append_assoc, List.length_cons]
    rw [listP_next rd _ _ (Nat.succ_pos _) rfl, h1]
    dsimp only
    rw [show xs.length + 1 - 1 = xs.length from rfl, ih]
theorem rdInt2_enc (x : Int) (rest : List UInt8) (h : 0 ≤ x ∧ x < 65536) : rdInt2 ⟨num2 x ++ rest, false⟩ = (x, ⟨rest, false⟩) := by
  unfold rdInt2
  dsimp only [RdS.num, RdS.tk]
  rw [tkO_app (num2_len x), tkR_app (num2_len x), tkB_app (num2_len x), numV2 x h.1 h.2]
def partW (p : PartL) : List UInt8 := num1 p.name.length ++ p.name ++ p.hash
theorem rdPart_enc (p : PartL) (rest : List UInt8) (h : p.name.length < 256 ∧ p.hash.length = 32) : rdPart ⟨partW p ++ rest, false⟩ = (p, ⟨rest, false⟩) := by
  obtain ⟨nm, hs⟩ := p
  dsimp only at h
  have e1 : numV (num1 (nm.length : Int)) = nm.length := numV_num1 _ h.1
  unfold rdPart partW
  dsimp only [RdS.num, RdS.tk]
  rw [List.append_assoc, List.append_assoc]
  rw [tkO_app (num1_len _), tkR_app (num1_len _), tkB_app (num1_len _), e1, tkO_app rfl, tkR_app rfl, tkB_app rfl, hashO_app h.2, tkR_app h.2, tkB_app h.2]
/-- Hashes of 32 bytes. -/
structure RelW (r : Rel) : Prop where
  image : r.image.length = 32
  tree : r.tree.length = 32
  parts : ∀ p ∈ r.parts, p.hash.length = 32
theorem mem_getD {α : Type} (l : List α) (d : α) (x : α) (h : x ∈ l) : ∃ i, i < l.length ∧ l.getD i d = x := by
  obtain ⟨i, hi, e⟩ := List.mem_iff_getElem.1 h
  exact ⟨i, hi, by simp [List.getD_eq_getElem?_getD, hi, e]⟩
theorem valid_nums {r : Rel} (hv : validB r = true) : (1 ≤ r.version ∧ r.version ≤ 60000) ∧ (0 ≤ r.floor ∧ r.floor ≤ r.version) ∧ (0 ≤ r.expiry ∧ r.expiry ≤ 1000000000) ∧ (0 ≤ r.size ∧ r.size ≤ 65536) ∧ (1 ≤ r.chunks ∧ r.chunks ≤ 256) ∧ r.gone.length ≤ 16 ∧ r.parts.length ≤ 8 ∧ ∀ x ∈ r.gone, 0 ≤ x ∧ x < 65536 := by
  unfold validB at hv
  simp only [Bool.and_eq_true] at hv
  obtain ⟨h1, h2, _, _⟩ := hv
  unfold valid1 inB at h1
  unfold valid2 at h2
  simp only [Bool.and_eq_true, decide_eq_true_eq] at h1 h2
  obtain ⟨h3, h4, h5⟩ := h2
  refine ⟨by omega, by omega, by omega, by omega, by omega, h3, h5, fun x hx => ?_⟩
  obtain ⟨i, hi, rfl⟩ := mem_getD r.gone 0 x hx
  have := (of_decide_eq_true h4 i hi).1
  unfold inB at this
  simp only [Bool.and_eq_true, decide_eq_true_eq] at this
  omega
/-- Where the reading of a release ends. -/
def endP (b : List UInt8) : RdS := (partsP (goneP (hd8 b)).2).2
theorem parse_enc (r : Rel) (hv : validB r = true) (hw : RelW r) (more : List UInt8) : parseP (bytesR r ++ more) = r ∧ endP (bytesR r ++ more) = ⟨more, false⟩ := by
  obtain ⟨n1, n2, n3, n4, n5, n6, n7, n8⟩ := valid_nums hv
  have nl : ∀ p ∈ r.parts, p.name.length < 256 ∧ p.hash.length = 32 := fun p hp => by
    obtain ⟨i, hi, rfl⟩ := mem_getD r.parts part0 p hp
    exact ⟨by have := name_len hv i hi; omega, hw.parts _ hp⟩
  obtain ⟨v, fl, ex, sz, im, ch, tr, go, pa⟩ := r
  obtain ⟨w1, w2, -⟩ := hw
  dsimp only at n1 n2 n3 n4 n5 n6 n7 n8 nl w1 w2
  have hb : bytesR ⟨v, fl, ex, sz, im, ch, tr, go, pa⟩ ++ more = num1 86 ++ (num2 v ++ (num2 fl ++ (num4 ex ++ (num4 sz ++ (im ++ (num2 ch ++ (tr ++ (num1 go.length ++ (go.flatMap num2 ++ (num1 pa.length ++ (pa.flatMap partW ++ more))))))))))) := by
    simp only [bytesR, hdr, partsW, List.append_assoc]
    rfl
  rw [hb]
  have e1 : ((numV (num1 (go.length : Int)) : Nat)) = go.length := numV_num1 _ (by omega)
  have e2 : ((numV (num1 (pa.length : Int)) : Nat)) = pa.length := numV_num1 _ (by omega)
  have g1 : goneP ⟨num1 go.length ++ (go.flatMap num2 ++ (num1 pa.length ++ (pa.flatMap partW ++ more))), false⟩ = (go, ⟨num1 pa.length ++ (pa.flatMap partW ++ more), false⟩) := by
    unfold goneP
    dsimp only [RdS.num, RdS.tk]
    rw [tkO_app (num1_len _), tkR_app (num1_len _), tkB_app (num1_len _), e1]
    exact listP_enc rdInt2 num2 _ rdInt2_enc go _ n8
  have g2 : partsP ⟨num1 pa.length ++ (pa.flatMap partW ++ more), false⟩ = (pa, ⟨more, false⟩) := by
    unfold partsP
    dsimp only [RdS.num, RdS.tk]
    rw [tkO_app (num1_len _), tkR_app (num1_len _), tkB_app (num1_len _), e2]
    exact listP_enc rdPart partW _ rdPart_enc pa _ nl
  have h8 : hd8 (num1 86 ++ (num2 v ++ (num2 fl ++ (num4 ex ++ (num4 sz ++ (im ++ (num2 ch ++ (tr ++ (num1 go.length ++ (go.flatMap num2 ++ (num1 pa.length ++ (pa.flatMap partW ++ more)))))))))))) = ⟨num1 go.length ++ (go.flatMap num2 ++ (num1 pa.length ++ (pa.flatMap partW ++ more))), false⟩ := by
    unfold hd8
    simp only [tkR_app (num1_len 86), tkR_app (num2_len v), tkR_app (num2_len fl), tkR_app (num4_len ex), tkR_app (num4_len sz), tkR_app w1, tkR_app (num2_len ch), tkR_app w2, tkB_app (num1_len 86), tkB_app (num2_len v), tkB_app (num2_len fl), tkB_app (num4_len ex), tkB_app (num4_len sz), tkB_app w1, tkB_app (num2_len ch), tkB_app w2]
  constructor
  · unfold parseP
    rw [h8, g1]
    dsimp only
    rw [g2]
    simp only [tkR_app (num1_len 86), tkR_app (num2_len v), tkR_app (num2_len fl), tkR_app (num4_len ex), tkR_app (num4_len sz), tkR_app w1, tkR_app (num2_len ch), tkR_app w2, tkO_app (num2_len v), tkO_app (num2_len fl), tkO_app (num4_len ex), tkO_app (num4_len sz), tkO_app (num2_len ch), hashO_app w1, hashO_app w2]
    rw [numV2 v (by omega) (by omega), numV2 fl (by omega) (by omega), numV4 ex (by omega) (by omega), numV4 sz (by omega) (by omega), numV2 ch (by omega) (by omega)]
  · unfold endP
    rw [h8, g1]
    dsimp only
    rw [g2]
theorem listP_all {α : Type} (rd : RdS → α × RdS) (Q : α → Prop) (h : ∀ s, Q (rd s).1) : ∀ (n : Nat) (s : RdS), ∀ x ∈ (listP rd n s).1, Q x
  | 0, s, x, hx => by simp [listP] at hx
  | n + 1, s, x, hx => by
    unfold listP at hx
    split at hx
    · cases hx
    · rcases List.mem_cons.1 hx with rfl | hx
      · exact h s
      · exact listP_all rd Q h n _ x hx
theorem parseP_wf (b : List UInt8) : RelW (parseP b) := ⟨hashO_len _, hashO_len _, listP_all rdPart _ (fun _ => hashO_len _) _ _⟩
theorem bytesR_ne (r : Rel) : bytesR r ≠ [] := by
  unfold bytesR hdr num1
  simp
/-- The bytes of a release are read as it. -/
theorem okP_of (r : Rel) (hv : validB r = true) (hw : RelW r) : okP (bytesR r) = true ∧ parseP (bytesR r) = r := by
  have h := (parse_enc r hv hw []).1
  rw [List.append_nil] at h
  refine ⟨?_, h⟩
  unfold okP
  rw [h, hv, decide_eq_true rfl, decide_eq_false (bytesR_ne r)]
  rfl
theorem okP_inv {b : List UInt8} (h : okP b = true) : b = bytesR (parseP b) ∧ validB (parseP b) = true := by
  unfold okP at h
  simp only [Bool.and_eq_true, decide_eq_true_eq] at h
  exact ⟨h.2.2.symm, h.2.1⟩
theorem bytesR_inj {r q : Rel} (hv : validB r = true) (hw : RelW r) (hv' : validB q = true) (hw' : RelW q) (h : bytesR r = bytesR q) : r = q := by
  have h1 := (okP_of r hv hw).2
  have h2 := (okP_of q hv' hw').2
  rw [h, h2] at h1
  exact h1.symm
end Go.Proofs.YtegbdcadlmefgaaDoor
end
section
namespace Go.Proofs.YtegbdcadlmefgaaDoor
open Go.RowKit V
set_option maxRecDepth 100000
set_option maxHeartbeats 4000000
set_option linter.unusedSimpArgs false
attribute [local irreducible] V.Sat V.DSat
/-- What the reference takes: where there is too little, zeros. -/
def tkZ (l : List UInt8) (n : Nat) : List UInt8 := if n ≤ l.length then l.take n else List.replicate n 0
theorem tkZ_len (l : List UInt8) (n : Nat) : (tkZ l n).length = n := by
  unfold tkZ
  split
  · simp; omega
  · simp
theorem takeR_spec (l : List UInt8) (bad : Bool) (n : Nat) (hn : n ≤ 255) : MFun Tryd.prog [] 79 [.int .i64 (n : Int)] 131 [.ro (.u8 l), .bool bad] [.ro (.u8 (tkR l n)), .bool (tkB l bad n)] (.ro (.u8 (tkZ l n))) := by
  refine MFun.mk 6 Tryd.func79 rfl Tryd.ntmps79 rfl rfl fun hf hg T w b hT hTb => ?_
  unfold tkZ tkR tkB
  by_cases h0 : n ≤ l.length
  · rw [if_pos h0, if_pos h0, if_pos h0]
    repeat' (first
        | ((with_reducible apply Sat.run (X := X64)); exact rfl; (first | exact True.intro | (exact phi) | skip))
        | ((with_reducible apply Sat.drawn); kernel_rfl)
        | ((with_reducible apply DSat.run (X := X64)); exact rfl; (first | exact True.intro | (exact phi) | skip))
        | ((with_reducible apply DSat.fin); kernel_rfl)
        | ((with_reducible apply Sat.cond_t); exact rfl)
        | ((with_reducible apply Sat.cond_f); exact rfl)
        | ((with_reducible apply Sat.cond_pt); exact rfl; (try dsimp only [V.EV.sub, V.EV.len]); first | assumption | omega)
        | ((with_reducible apply Sat.cond_pf); exact rfl; (try dsimp only [V.EV.sub, V.EV.len]); first | assumption | omega)
        | ((with_reducible apply Sat.cond_p); exact rfl; all_goals intro h)
        | ((with_reducible apply Sat.cond); exact rfl; all_goals intro h) | fail)
    refine Sat.mfin (Sat.mend1 hT rfl rfl True.intro rfl (.cons _ _ _ _ (.refl _ trivial) (.cons _ _ _ _ (.refl _ trivial) .nil)) (.refl _ trivial) (by first | exact .inl rfl | exact .inr rfl) rfl) ?_ ?_
    · show SV.ro (EV.u8 (l.take n)) = SV.ro (EV.u8 (((l.drop 0).take (n - 0))))
      rw [List.drop_zero, Nat.sub_zero]
    · show [SV.ro (EV.u8 (l.drop n)), SV.bool bad] = [SV.ro (EV.u8 ((l.drop n).take (l.length - n))), SV.bool bad]
      rw [List.take_of_length_le (by simp)]
  · rw [if_neg h0, if_neg h0, if_neg h0]
    repeat' (first
        | ((with_reducible apply Sat.run (X := X64)); exact rfl; (first | exact True.intro | (exact phi) | skip))
        | ((with_reducible apply Sat.drawn); kernel_rfl)
        | ((with_reducible apply DSat.run (X := X64)); exact rfl; (first | exact True.intro | (exact phi) | skip))
        | ((with_reducible apply DSat.fin); kernel_rfl)
        | ((with_reducible apply Sat.cond_t); exact rfl)
        | ((with_reducible apply Sat.cond_f); exact rfl)
        | ((with_reducible apply Sat.cond_pt); exact rfl; (try dsimp only [V.EV.sub, V.EV.len]); first | assumption | omega)
        | ((with_reducible apply Sat.cond_pf); exact rfl; (try dsimp only [V.EV.sub, V.EV.len]); first | assumption | omega)
        | ((with_reducible apply Sat.cond_p); exact rfl; all_goals intro h)
        | ((with_reducible apply Sat.cond); exact rfl; all_goals intro h) | fail)
    · rw [show (mctx Tryd.prog [] 37 T w b).P.types[5].bytes = 1 from by kernel_rfl]
      exact ⟨⟨by omega, by omega, by omega, by omega⟩, trivial⟩
    refine Sat.mfin (Sat.mend1 hT rfl rfl True.intro rfl (.cons _ _ _ _ (.nils (.u8 []) rfl) (.cons _ _ _ _ (.refl _ trivial) .nil)) (.all _ _ _ _ _ rfl rfl (by simp [EV.len]) trivial) (by first | exact .inl rfl | exact .inr rfl) rfl) ?_ ?_
    all_goals rfl
theorem numV_zero : ∀ n : Nat, numV (List.replicate n 0) = 0
  | 0 => rfl
  | n + 1 => by
    have := numV_zero n
    unfold numV at this ⊢
    simpa [List.replicate_succ] using this
theorem numV_tkZ (l : List UInt8) (n : Nat) : numV (tkZ l n) = numV (tkO l n) := by
  unfold tkZ tkO
  split
  · rfl
  · rw [numV_zero]; rfl
theorem hashO_tkZ (l : List UInt8) : tkZ l 32 = hashO l := rfl
theorem numberR_spec (l : List UInt8) (bad : Bool) (n : Nat) (hn : n ≤ 4) : MFun Tryd.prog [] 80 [.int .i64 (n : Int)] 131 [.ro (.u8 l), .bool bad] [.ro (.u8 (tkR l n)), .bool (tkB l bad n)] (.int .i64 (numV (tkO l n) : Int)) := by
  have ht := takeR_spec l bad n (by omega)
  have hl := tkZ_len l n
  rw [← numV_tkZ]
  generalize tkZ l n = m at ht hl ⊢
  refine MFun.mk 6 Tryd.func80 rfl Tryd.ntmps80 rfl rfl fun hf hg T w b hT hTb => ?_
  repeat' (first
      | ((with_reducible apply Sat.run (X := X64)); exact rfl; (first | exact True.intro | (exact phi) | skip))
      | ((with_reducible apply Sat.drawn); kernel_rfl)
      | ((with_reducible apply DSat.run (X := X64)); exact rfl; (first | exact True.intro | (exact phi) | skip))
      | ((with_reducible apply DSat.fin); kernel_rfl)
      | ((with_reducible apply Sat.cond_t); exact rfl)
      | ((with_reducible apply Sat.cond_f); exact rfl)
      | ((with_reducible apply Sat.cond_pt); exact rfl; (try dsimp only [V.EV.sub, V.EV.len]); first | assumption | omega)
      | ((with_reducible apply Sat.cond_pf); exact rfl; (try dsimp only [V.EV.sub, V.EV.len]); first | assumption | omega)
      | ((with_reducible apply Sat.cond_p); exact rfl; all_goals intro h)
      | ((with_reducible apply Sat.cond); exact rfl; all_goals intro h)
      | ((with_reducible apply Sat.mcall (ht)); exact rfl; exact rfl; kernel_rfl; (exact cnv); exact rfl; exact pur; exact rfl; exact rfl)
      | ((with_reducible apply DSat.mcall (ht)); exact rfl; exact rfl; kernel_rfl; (exact cnv); exact rfl; exact pur; exact rfl; exact rfl) | fail)
  clear ht
  apply Sat.loop (α := Nat) (fun x => x ≤ m.length) (fun x => m.length - x) 0 (fun x => [(7, .int .i64 (x : Int)), (6, .int .i64 (numV (m.take x) : Int))]) (fun _ => []) [] [] 0
  · intro x; exact rfl
  · intro x; exact rfl
  · exact rfl
  · exact rfl
  · (repeat' (first | exact AllP.nil | with_reducible refine AllP.cons ?_ ?_)) <;> first | exact rfl | exact trivial
  · exact Nat.zero_le _
  · intro x hx
    have h1 := numV_lt m x hx
    have h2 : 256 ^ x ≤ 256 ^ 4 := Nat.pow_le_pow_right (by omega) (by omega)
    have h3 : numV (m.take x) < 4294967296 := by omega
    clear h1 h2
    have h4 := (m.getD (x : Int).toNat 0).toNat_lt
    generalize hv : numV (m.take x) = v at h3
    repeat' (first
        | ((with_reducible apply Sat.run (X := X64)); exact rfl; (first | exact True.intro | (exact phi) | skip))
        | ((with_reducible apply Sat.drawn); kernel_rfl)
        | ((with_reducible apply DSat.run (X := X64)); exact rfl; (first | exact True.intro | (exact phi) | skip))
        | ((with_reducible apply DSat.fin); kernel_rfl)
        | ((with_reducible apply Sat.cond_t); exact rfl)
        | ((with_reducible apply Sat.cond_f); exact rfl)
        | ((with_reducible apply Sat.cond_pt); exact rfl; (try dsimp only [V.EV.sub, V.EV.len]); first | assumption | omega)
        | ((with_reducible apply Sat.cond_pf); exact rfl; (try dsimp only [V.EV.sub, V.EV.len]); first | assumption | omega)
        | ((with_reducible apply Sat.cond_p); exact rfl; all_goals intro h)
        | ((with_reducible apply Sat.cond); exact rfl; all_goals intro h) | fail)
    · have hx2 : x < m.length := by omega
      refine Sat.back (x + 1) [] rfl ?_ hx2 (by omega)
      (repeat' (first | exact AllP.nil | with_reducible refine AllP.cons ?_ ?_)) <;> first | with_reducible exact rfl | exact Int.natCast_add_one _ | (rw [numV_snoc m x hx2, hv]; show 256 * (v : Int) + ((m.getD x 0).toNat : Int) = ((v * 256 + (m.getD x 0).toNat : Nat) : Int); omega) | exact rfl | exact trivial
    · have hx2 : x = m.length := by omega
      rw [hx2, List.take_length] at hv
      refine Sat.mfin (Sat.mend1 hT rfl rfl True.intro rfl (.cons _ _ _ _ (.refl _ trivial) (.cons _ _ _ _ (.refl _ trivial) .nil)) (.refl _ trivial) (by first | exact .inl rfl | exact .inr rfl) rfl) ?_ rfl
      rw [hv]
theorem set_step (m : List UInt8) (x : Nat) (hm : m.length = 32) (hx : x < 32) : (m.take x ++ List.replicate (32 - x) 0).set x (UInt8.ofNat ((m.getD x 0).toNat : Int).toNat) = m.take (x + 1) ++ List.replicate (32 - (x + 1)) 0 := by
  have e : UInt8.ofNat ((m.getD x 0).toNat : Int).toNat = m.getD x 0 := by
    rw [Int.toNat_natCast, UInt8.ofNat_toNat]
  have e2 : m.take (x + 1) = m.take x ++ [m.getD x 0] := by
    rw [List.take_add_one]
    simp [List.getD_eq_getElem?_getD, show x < m.length by omega]
  have hl : (m.take x).length = x := by simp; omega
  rw [e, show 32 - x = (32 - (x + 1)) + 1 by omega, List.replicate_succ, List.set_append_right _ _ (by omega), hl, Nat.sub_self, List.set_cons_zero, e2, List.append_assoc]
  rfl
theorem sumR_spec (l : List UInt8) (bad : Bool) : MFun Tryd.prog [] 81 [] 131 [.ro (.u8 l), .bool bad] [.ro (.u8 (tkR l 32)), .bool (tkB l bad 32)] (.arr 32 (.u8 (hashO l))) := by
  have ht := takeR_spec l bad 32 (by omega)
  have hl := tkZ_len l 32
  rw [← hashO_tkZ]
  generalize tkZ l 32 = m at ht hl ⊢
  refine MFun.mk 6 Tryd.func81 rfl Tryd.ntmps81 rfl rfl fun hf hg T w b hT hTb => ?_
  repeat' (first
      | ((with_reducible apply Sat.run (X := X64)); exact rfl; (first | exact True.intro | (exact phi) | skip))
      | ((with_reducible apply Sat.drawn); kernel_rfl)
      | ((with_reducible apply DSat.run (X := X64)); exact rfl; (first | exact True.intro | (exact phi) | skip))
      | ((with_reducible apply DSat.fin); kernel_rfl)
      | ((with_reducible apply Sat.cond_t); exact rfl)
      | ((with_reducible apply Sat.cond_f); exact rfl)
      | ((with_reducible apply Sat.cond_pt); exact rfl; (try dsimp only [V.EV.sub, V.EV.len]); first | assumption | omega)
      | ((with_reducible apply Sat.cond_pf); exact rfl; (try dsimp only [V.EV.sub, V.EV.len]); first | assumption | omega)
      | ((with_reducible apply Sat.cond_p); exact rfl; all_goals intro h)
      | ((with_reducible apply Sat.cond); exact rfl; all_goals intro h)
      | ((with_reducible apply Sat.mcall (ht)); exact rfl; exact rfl; kernel_rfl; (exact cnv); exact rfl; exact pur; exact rfl; exact rfl)
      | ((with_reducible apply DSat.mcall (ht)); exact rfl; exact rfl; kernel_rfl; (exact cnv); exact rfl; exact pur; exact rfl; exact rfl) | fail)
  clear ht
  apply Sat.loop (α := Nat) (fun x => x ≤ 32) (fun x => 32 - x) 0 (fun x => [(5, .int .i64 (x : Int))]) (fun x => [(2, .cells 23 [.arr 32 (.u8 (m.take x ++ List.replicate (32 - x) 0))])]) [] [] 0
  · intro x; exact rfl
  · intro x; exact rfl
  · exact rfl
  · exact rfl
  · (repeat' (first | exact AllP.nil | with_reducible refine AllP.cons ?_ ?_)) <;> first | exact rfl | exact trivial
  · exact Nat.zero_le _
  · intro x hx
    repeat' (first
        | ((with_reducible apply Sat.run (X := X64)); exact rfl; (first | exact True.intro | (exact phi) | skip))
        | ((with_reducible apply Sat.drawn); kernel_rfl)
        | ((with_reducible apply DSat.run (X := X64)); exact rfl; (first | exact True.intro | (exact phi) | skip))
        | ((with_reducible apply DSat.fin); kernel_rfl)
        | ((with_reducible apply Sat.cond_t); exact rfl)
        | ((with_reducible apply Sat.cond_f); exact rfl)
        | ((with_reducible apply Sat.cond_pt); exact rfl; (try dsimp only [V.EV.sub, V.EV.len]); first | assumption | omega)
        | ((with_reducible apply Sat.cond_pf); exact rfl; (try dsimp only [V.EV.sub, V.EV.len]); first | assumption | omega)
        | ((with_reducible apply Sat.cond_p); exact rfl; all_goals intro h)
        | ((with_reducible apply Sat.cond); exact rfl; all_goals intro h) | fail)
    · have hx2 : x < 32 := by omega
      refine Sat.back (x + 1) [] rfl ?_ (by omega) (by omega)
      (repeat' (first | exact AllP.nil | with_reducible refine AllP.cons ?_ ?_)) <;> first | with_reducible exact rfl | exact Int.natCast_add_one _ | exact congrArg EV.u8 (set_step m x hl hx2) | exact rfl | exact trivial
    · have hx2 : x = 32 := by omega
      subst hx2
      refine Sat.mfin (Sat.mend1 hT rfl rfl True.intro rfl (.cons _ _ _ _ (.refl _ trivial) (.cons _ _ _ _ (.refl _ trivial) .nil)) (.refl _ trivial) (by first | exact .inl rfl | exact .inr rfl) rfl) ?_ rfl
      refine congrArg (fun x => SV.arr 32 (EV.u8 x)) ?_
      rw [List.take_of_length_le (by omega)]
      simp
end Go.Proofs.YtegbdcadlmefgaaDoor
end
section
namespace Go.Proofs.YtegbdcadlmefgaaDoor
open Go.RowKit V
--PURE: (intro _ _; simp [pureL, pureS, pureE]; done)
set_option maxRecDepth 100000
set_option maxHeartbeats 4000000
set_option linter.unusedSimpArgs false
attribute [local irreducible] V.Sat V.DSat tkO tkR tkB tkZ numV hashO
theorem take1_rf (l : List UInt8) (bad : Bool) : MFun Tryd.prog [] 79 [.int .i64 1] 131 [.ro (.u8 l), .bool bad] [.ro (.u8 (tkR l 1)), .bool (tkB l bad 1)] (.ro (.u8 (tkZ l 1))) := takeR_spec l bad 1 (by omega)
theorem num1_rf (l : List UInt8) (bad : Bool) : MFun Tryd.prog [] 80 [.int .i64 1] 131 [.ro (.u8 l), .bool bad] [.ro (.u8 (tkR l 1)), .bool (tkB l bad 1)] (.int .i64 (numV (tkO l 1) : Int)) := numberR_spec l bad 1 (by omega)
theorem num2_rf (l : List UInt8) (bad : Bool) : MFun Tryd.prog [] 80 [.int .i64 2] 131 [.ro (.u8 l), .bool bad] [.ro (.u8 (tkR l 2)), .bool (tkB l bad 2)] (.int .i64 (numV (tkO l 2) : Int)) := numberR_spec l bad 2 (by omega)
theorem num4_rf (l : List UInt8) (bad : Bool) : MFun Tryd.prog [] 80 [.int .i64 4] 131 [.ro (.u8 l), .bool bad] [.ro (.u8 (tkR l 4)), .bool (tkB l bad 4)] (.int .i64 (numV (tkO l 4) : Int)) := numberR_spec l bad 4 (by omega)
def rdPartR (s : RdS) : PartL × RdS := (⟨tkZ (s.tk 1).l (s.num 1), hashO ((s.tk 1).tk (s.num 1)).l⟩, ((s.tk 1).tk (s.num 1)).tk 32)
def partsR (s : RdS) : List PartL × RdS := listP rdPartR (s.num 1) (s.tk 1)
def parseR (b : List UInt8) : Rel := ⟨(numV (tkO (tkR b 1) 2) : Int), (numV (tkO (tkR (tkR b 1) 2) 2) : Int), (numV (tkO (tkR (tkR (tkR b 1) 2) 2) 4) : Int), (numV (tkO (tkR (tkR (tkR (tkR b 1) 2) 2) 4) 4) : Int), hashO (tkR (tkR (tkR (tkR (tkR b 1) 2) 2) 4) 4), (numV (tkO (tkR (tkR (tkR (tkR (tkR (tkR b 1) 2) 2) 4) 4) 32) 2) : Int), hashO (tkR (tkR (tkR (tkR (tkR (tkR (tkR b 1) 2) 2) 4) 4) 32) 2), (goneP (hd8 b)).1, (partsR (goneP (hd8 b)).2).1⟩
def badR (b : List UInt8) : Bool := (partsR (goneP (hd8 b)).2).2.bad
def okR (b : List UInt8) : Bool := !badR b && (!decide (b = []) && (validB (parseR b) && decide (bytesR (parseR b) = b)))
theorem parseR_walk (b : List UInt8) : Fun Tryd.prog [] 27 [.ro (.u8 b)] (.tup [(bif okR b then parseR b else zeroRel).v, .int .i64 (bif okR b then 0 else 260)]) := by
  refine Fun.mkF 7 Tryd.func27 rfl Tryd.ntmps27 rfl rfl fun hf T w0 => ?_
  have hN := numV_le (tkR (tkR (tkR (tkR (tkR (tkR (tkR (tkR b 1) 2) 2) 4) 4) 32) 2) 32) 1
  repeat' (first
      | ((with_reducible apply Sat.run (X := X64)); exact rfl; (first | exact True.intro | (exact phi) | skip))
      | ((with_reducible apply Sat.drawn); kernel_rfl)
      | ((with_reducible apply DSat.run (X := X64)); exact rfl; (first | exact True.intro | (exact phi) | skip))
      | ((with_reducible apply DSat.fin); kernel_rfl)
      | ((with_reducible apply Sat.cond_t); exact rfl)
      | ((with_reducible apply Sat.cond_f); exact rfl)
      | ((with_reducible apply Sat.cond_pt); exact rfl; (try dsimp only [V.EV.sub, V.EV.len]); first | assumption | omega)
      | ((with_reducible apply Sat.cond_pf); exact rfl; (try dsimp only [V.EV.sub, V.EV.len]); first | assumption | omega)
      | ((with_reducible apply Sat.cond_p); exact rfl; all_goals intro h)
      | ((with_reducible apply Sat.cond); exact rfl; all_goals intro h)
      | ((with_reducible apply Sat.mcall (take1_rf _ _)); exact rfl; exact rfl; kernel_rfl; (exact cnvX); exact rfl; exact purX; exact rfl; exact rfl)
      | ((with_reducible apply DSat.mcall (take1_rf _ _)); exact rfl; exact rfl; kernel_rfl; (exact cnvX); exact rfl; exact purX; exact rfl; exact rfl)
      | ((with_reducible apply Sat.mcall (num2_rf _ _)); exact rfl; exact rfl; kernel_rfl; (exact cnvX); exact rfl; exact purX; exact rfl; exact rfl)
      | ((with_reducible apply DSat.mcall (num2_rf _ _)); exact rfl; exact rfl; kernel_rfl; (exact cnvX); exact rfl; exact purX; exact rfl; exact rfl)
      | ((with_reducible apply Sat.mcall (num4_rf _ _)); exact rfl; exact rfl; kernel_rfl; (exact cnvX); exact rfl; exact purX; exact rfl; exact rfl)
      | ((with_reducible apply DSat.mcall (num4_rf _ _)); exact rfl; exact rfl; kernel_rfl; (exact cnvX); exact rfl; exact purX; exact rfl; exact rfl)
      | ((with_reducible apply Sat.mcall (sumR_spec _ _)); exact rfl; exact rfl; kernel_rfl; (exact cnvX); exact rfl; exact purX; exact rfl; exact rfl)
      | ((with_reducible apply DSat.mcall (sumR_spec _ _)); exact rfl; exact rfl; kernel_rfl; (exact cnvX); exact rfl; exact purX; exact rfl; exact rfl)
      | ((with_reducible apply Sat.mcall (num1_rf _ _)); exact rfl; exact rfl; kernel_rfl; (exact cnvX); exact rfl; exact purX; exact rfl; exact rfl)
      | ((with_reducible apply DSat.mcall (num1_rf _ _)); exact rfl; exact rfl; kernel_rfl; (exact cnvX); exact rfl; exact purX; exact rfl; exact rfl) | fail)
  generalize el : (tkR (tkR (tkR (tkR (tkR (tkR (tkR (tkR b 1) 2) 2) 4) 4) 32) 2) 32) = l8 at hN ⊢
  generalize eb : (tkB (tkR (tkR (tkR (tkR (tkR (tkR (tkR b 1) 2) 2) 4) 4) 32) 2) (tkB (tkR (tkR (tkR (tkR (tkR (tkR b 1) 2) 2) 4) 4) 32) (tkB (tkR (tkR (tkR (tkR (tkR b 1) 2) 2) 4) 4) (tkB (tkR (tkR (tkR (tkR b 1) 2) 2) 4) (tkB (tkR (tkR (tkR b 1) 2) 2) (tkB (tkR (tkR b 1) 2) (tkB (tkR b 1) (tkB b false 1) 2) 2) 4) 4) 32) 2) 32) = b8
  have hnv := numV_le (tkR b 1) 2
  generalize env : numV (tkO (tkR b 1) 2) = nv at hnv ⊢
  have hnf := numV_le (tkR (tkR b 1) 2) 2
  generalize enf : numV (tkO (tkR (tkR b 1) 2) 2) = nf at hnf ⊢
  have hne := numV_le (tkR (tkR (tkR b 1) 2) 2) 4
  generalize ene : numV (tkO (tkR (tkR (tkR b 1) 2) 2) 4) = ne at hne ⊢
  have hns := numV_le (tkR (tkR (tkR (tkR b 1) 2) 2) 4) 4
  generalize ens : numV (tkO (tkR (tkR (tkR (tkR b 1) 2) 2) 4) 4) = ns at hns ⊢
  have hnc := numV_le (tkR (tkR (tkR (tkR (tkR (tkR b 1) 2) 2) 4) 4) 32) 2
  generalize enc : numV (tkO (tkR (tkR (tkR (tkR (tkR (tkR b 1) 2) 2) 4) 4) 32) 2) = nc at hnc ⊢
  have him := hashO_len (tkR (tkR (tkR (tkR (tkR b 1) 2) 2) 4) 4)
  generalize eim : hashO (tkR (tkR (tkR (tkR (tkR b 1) 2) 2) 4) 4) = im at him ⊢
  have htr := hashO_len (tkR (tkR (tkR (tkR (tkR (tkR (tkR b 1) 2) 2) 4) 4) 32) 2)
  generalize etr : hashO (tkR (tkR (tkR (tkR (tkR (tkR (tkR b 1) 2) 2) 4) 4) 32) 2) = tr at htr ⊢
  generalize eg : listP rdInt2 (numV (tkO l8 1)) ⟨tkR l8 1, tkB l8 b8 1⟩ = gp
  generalize en : numV (tkO l8 1) = n0 at hN eg ⊢
  generalize eq1 : tkR l8 1 = l9 at eg ⊢
  generalize eq2 : tkB l8 b8 1 = b9 at eg ⊢
  apply Sat.loop (α := Nat × RdS × List Int) (fun x => x.1 ≤ n0 ∧ x.2.2.length = x.1 ∧ gp = (x.2.2 ++ (listP rdInt2 (n0 - x.1) x.2.1).1, (listP rdInt2 (n0 - x.1) x.2.1).2)) (fun x => n0 - x.1) (0, ⟨l9, b9⟩, []) (fun x => [(7, .int .i64 (x.1 : Int))]) (fun x => [(1, .cells 131 [.ro (.u8 x.2.1.l), .bool x.2.1.bad]), (2, .cells 27 [.int .i64 nv, .int .i64 nf, .int .i64 ne, .int .i64 ns, .arr 32 (.u8 im), .int .i64 nc, .arr 32 (.u8 tr), .row 3 0 1 0 x.2.2.length, .nils]), (3, .row 3 (.ints .i64 x.2.2))]) [] [(3, none)] 1
  · intro x; exact rfl
  · intro x; exact rfl
  · exact rfl
  · exact rfl
  · (repeat' (first | exact AllP.nil | with_reducible refine AllP.cons ?_ ?_)) <;> first | with_reducible exact rfl | exact rfl | exact trivial | (intro _ _; simp [pureL, pureS, pureE]; done) | exact ⟨rfl, rfl, rfl, rfl⟩
  · exact ⟨Nat.zero_le _, rfl, by rw [← eg]; rfl⟩
  · rintro ⟨i, s, acc⟩ ⟨x0, x1, x2⟩
    obtain ⟨l, bad⟩ := s
    dsimp only at x0 x1 x2 ⊢
    repeat' (first
        | ((with_reducible apply Sat.run (X := X64)); exact rfl; (first | exact True.intro | (exact phi) | skip))
        | ((with_reducible apply Sat.drawn); kernel_rfl)
        | ((with_reducible apply DSat.run (X := X64)); exact rfl; (first | exact True.intro | (exact phi) | skip))
        | ((with_reducible apply DSat.fin); kernel_rfl)
        | ((with_reducible apply Sat.cond_t); exact rfl)
        | ((with_reducible apply Sat.cond_f); exact rfl)
        | ((with_reducible apply Sat.cond_pt); exact rfl; (try dsimp only [V.EV.sub, V.EV.len]); first | assumption | omega)
        | ((with_reducible apply Sat.cond_pf); exact rfl; (try dsimp only [V.EV.sub, V.EV.len]); first | assumption | omega)
        | ((with_reducible apply Sat.cond_p); exact rfl; all_goals (intro h; (try simp only [V.EV.sub, V.EV.len] at h)))
        | ((with_reducible apply Sat.cond); exact rfl; all_goals (intro h; (try simp only [V.EV.sub, V.EV.len, Bool.cond_true_left, Bool.cond_false_right, Bool.or_eq_true, Bool.and_eq_true, Bool.or_eq_false_iff, Bool.and_eq_false_iff, Bool.not_eq_true', Bool.not_eq_false', decide_eq_true_eq, decide_eq_false_iff_not, ne_eq] at h)))
        | ((with_reducible apply Sat.mcall (num2_rf _ _)); exact rfl; exact rfl; kernel_rfl; (exact cnvX); exact rfl; exact purX; exact rfl; exact rfl)
        | ((with_reducible apply DSat.mcall (num2_rf _ _)); exact rfl; exact rfl; kernel_rfl; (exact cnvX); exact rfl; exact purX; exact rfl; exact rfl) | fail)
    · obtain ⟨hn, hb⟩ : i < n0 ∧ bad = false := by revert h; cases bad <;> simp <;> omega
      refine Sat.back (i + 1, ⟨tkR l 2, tkB l bad 2⟩, acc ++ [(numV (tkO l 2) : Int)]) [(3, some 5)] rfl ?_ ?_ ?_
      · (repeat' (first | exact AllP.nil | with_reducible refine AllP.cons ?_ ?_)) <;> first | with_reducible exact rfl | exact Int.natCast_add_one _ | (show _ = (acc ++ [(numV (tkO l 2) : Int)]).length; simp [EV.len, EV.sub]; done) | (refine ⟨rfl, rfl, rfl, ?_⟩; show _ = (acc ++ [(numV (tkO l 2) : Int)]).length; simp [EV.len, EV.sub]; done) | exact rfl | exact trivial | (intro _ _; simp [pureL, pureS, pureE]; done) | exact ⟨rfl, rfl, rfl, rfl⟩
      · refine ⟨hn, by simp only [List.length_append, List.length_cons, List.length_nil]; omega, ?_⟩
        dsimp only
        rw [x2, listP_next rdInt2 (n0 - i) ⟨l, bad⟩ (by omega) hb, show n0 - (i + 1) = n0 - i - 1 by omega]
        simp only [List.append_assoc, List.cons_append, List.nil_append]
        rfl
      · dsimp only; omega
    · have hs : n0 - i = 0 ∨ bad = true := by revert h; cases bad <;> simp <;> omega
      rw [listP_stop rdInt2 (n0 - i) ⟨l, bad⟩ hs, List.append_nil] at x2
      have hacc : acc.length ≤ 255 := by omega
      clear h hs
      have hN2 := numV_le l 1
      repeat' (first
          | ((with_reducible apply Sat.run (X := X64)); exact rfl; (first | exact True.intro | (exact phi) | skip))
          | ((with_reducible apply Sat.drawn); kernel_rfl)
          | ((with_reducible apply DSat.run (X := X64)); exact rfl; (first | exact True.intro | (exact phi) | skip))
          | ((with_reducible apply DSat.fin); kernel_rfl)
          | ((with_reducible apply Sat.cond_t); exact rfl)
          | ((with_reducible apply Sat.cond_f); exact rfl)
          | ((with_reducible apply Sat.cond_pt); exact rfl; (try dsimp only [V.EV.sub, V.EV.len]); first | assumption | omega)
          | ((with_reducible apply Sat.cond_pf); exact rfl; (try dsimp only [V.EV.sub, V.EV.len]); first | assumption | omega)
          | ((with_reducible apply Sat.cond_p); exact rfl; all_goals intro h)
          | ((with_reducible apply Sat.cond); exact rfl; all_goals intro h)
          | ((with_reducible apply Sat.mcall (num1_rf _ _)); exact rfl; exact rfl; kernel_rfl; (exact cnvX); exact rfl; exact purX; exact rfl; exact rfl)
          | ((with_reducible apply DSat.mcall (num1_rf _ _)); exact rfl; exact rfl; kernel_rfl; (exact cnvX); exact rfl; exact purX; exact rfl; exact rfl) | fail)
      generalize eg2 : listP rdPartR (numV (tkO l 1)) ⟨tkR l 1, tkB l bad 1⟩ = pp
      generalize en2 : numV (tkO l 1) = n2 at hN2 eg2 ⊢
      generalize eq3 : tkR l 1 = l10 at eg2 ⊢
      generalize eq4 : tkB l bad 1 = b10 at eg2 ⊢
      apply Sat.loop (α := Nat × RdS × List PartL) (fun x => x.1 ≤ n2 ∧ x.2.2.length = x.1 ∧ pp = (x.2.2 ++ (listP rdPartR (n2 - x.1) x.2.1).1, (listP rdPartR (n2 - x.1) x.2.1).2)) (fun x => n2 - x.1) (0, ⟨l10, b10⟩, []) (fun x => [(8, .int .i64 (x.1 : Int))]) (fun x => [(1, .cells 131 [.ro (.u8 x.2.1.l), .bool x.2.1.bad]), (2, .cells 27 [.int .i64 nv, .int .i64 nf, .int .i64 ne, .int .i64 ns, .arr 32 (.u8 im), .int .i64 nc, .arr 32 (.u8 tr), .row 3 0 1 0 acc.length, .row 4 0 33 0 x.2.2.length]), (4, .row 66 (partsE x.2.2))]) [] [(4, none)] 1
      · intro x; exact rfl
      · intro x; exact rfl
      · exact rfl
      · exact rfl
      · (repeat' (first | exact AllP.nil | with_reducible refine AllP.cons ?_ ?_)) <;> first | with_reducible exact rfl | exact rfl | exact trivial | (intro _ _; simp [pureL, pureS, pureE]; done) | exact ⟨rfl, rfl, rfl, rfl⟩
      · exact ⟨Nat.zero_le _, rfl, by rw [← eg2]; rfl⟩
      · rintro ⟨j, s, pa⟩ ⟨y0, y1, y2⟩
        obtain ⟨k, bd⟩ := s
        dsimp only at y0 y1 y2 ⊢
        have hk := numV_le k 1
        have ht := takeR_spec (tkR k 1) (tkB k bd 1) (numV (tkO k 1)) (by omega)
        repeat' (first
            | ((with_reducible apply Sat.run (X := X64)); exact rfl; (first | exact True.intro | (exact phi) | skip))
            | ((with_reducible apply Sat.drawn); kernel_rfl)
            | ((with_reducible apply DSat.run (X := X64)); exact rfl; (first | exact True.intro | (exact phi) | skip))
            | ((with_reducible apply DSat.fin); kernel_rfl)
            | ((with_reducible apply Sat.cond_t); exact rfl)
            | ((with_reducible apply Sat.cond_f); exact rfl)
            | ((with_reducible apply Sat.cond_pt); exact rfl; (try dsimp only [V.EV.sub, V.EV.len]); first | assumption | omega)
            | ((with_reducible apply Sat.cond_pf); exact rfl; (try dsimp only [V.EV.sub, V.EV.len]); first | assumption | omega)
            | ((with_reducible apply Sat.cond_p); exact rfl; all_goals (intro h; (try simp only [V.EV.sub, V.EV.len] at h)))
            | ((with_reducible apply Sat.cond); exact rfl; all_goals (intro h; (try simp only [V.EV.sub, V.EV.len, Bool.cond_true_left, Bool.cond_false_right, Bool.or_eq_true, Bool.and_eq_true, Bool.or_eq_false_iff, Bool.and_eq_false_iff, Bool.not_eq_true', Bool.not_eq_false', decide_eq_true_eq, decide_eq_false_iff_not, ne_eq] at h)))
            | ((with_reducible apply Sat.mcall (num1_rf k bd)); exact rfl; exact rfl; kernel_rfl; (exact cnvX); exact rfl; exact purX; exact rfl; exact rfl)
            | ((with_reducible apply DSat.mcall (num1_rf k bd)); exact rfl; exact rfl; kernel_rfl; (exact cnvX); exact rfl; exact purX; exact rfl; exact rfl)
            | ((with_reducible apply Sat.mcall (ht)); exact rfl; exact rfl; kernel_rfl; (exact cnvX); exact rfl; exact purX; exact rfl; exact rfl)
            | ((with_reducible apply DSat.mcall (ht)); exact rfl; exact rfl; kernel_rfl; (exact cnvX); exact rfl; exact purX; exact rfl; exact rfl)
            | ((with_reducible apply Sat.mcall (sumR_spec _ _)); exact rfl; exact rfl; kernel_rfl; (exact cnvX); exact rfl; exact purX; exact rfl; exact rfl)
            | ((with_reducible apply DSat.mcall (sumR_spec _ _)); exact rfl; exact rfl; kernel_rfl; (exact cnvX); exact rfl; exact purX; exact rfl; exact rfl) | fail)
        · obtain ⟨hn, hb⟩ : j < n2 ∧ bd = false := by revert h; cases bd <;> simp <;> omega
          refine Sat.back (j + 1, ⟨tkR (tkR (tkR k 1) (numV (tkO k 1))) 32, tkB (tkR (tkR k 1) (numV (tkO k 1))) (tkB (tkR k 1) (tkB k bd 1) (numV (tkO k 1))) 32⟩, pa ++ [(⟨tkZ (tkR k 1) (numV (tkO k 1)), hashO (tkR (tkR k 1) (numV (tkO k 1)))⟩ : PartL)]) [(4, some 6)] rfl ?_ ?_ ?_
          · (repeat' (first | exact AllP.nil | with_reducible refine AllP.cons ?_ ?_)) <;> first | with_reducible exact rfl | exact Int.natCast_add_one _ | (show pa.length + 1 = (pa ++ [(⟨tkZ (tkR k 1) (numV (tkO k 1)), hashO (tkR (tkR k 1) (numV (tkO k 1)))⟩ : PartL)]).length; simp; done) | exact parts_pure pa (⟨tkZ (tkR k 1) (numV (tkO k 1)), hashO (tkR (tkR k 1) (numV (tkO k 1)))⟩ : PartL) | (intro i hi; exact parts_snoc pa (⟨tkZ (tkR k 1) (numV (tkO k 1)), hashO (tkR (tkR k 1) (numV (tkO k 1)))⟩ : PartL) i hi) | (show _ = (pa ++ [(⟨tkZ (tkR k 1) (numV (tkO k 1)), hashO (tkR (tkR k 1) (numV (tkO k 1)))⟩ : PartL)]).length; simp [EV.len, EV.sub]; done) | (refine ⟨rfl, rfl, rfl, ?_⟩; show _ = (pa ++ [(⟨tkZ (tkR k 1) (numV (tkO k 1)), hashO (tkR (tkR k 1) (numV (tkO k 1)))⟩ : PartL)]).length; simp [EV.len, EV.sub]; done) | exact rfl | exact trivial | (intro _ _; simp [pureL, pureS, pureE]; done) | exact ⟨rfl, rfl, rfl, rfl⟩
          · refine ⟨hn, by simp only [List.length_append, List.length_cons, List.length_nil]; omega, ?_⟩
            dsimp only
            rw [y2, listP_next rdPartR (n2 - j) ⟨k, bd⟩ (by omega) hb, show n2 - (j + 1) = n2 - j - 1 by omega]
            simp only [List.append_assoc, List.cons_append, List.nil_append]
            rfl
          · dsimp only; omega
        · have hs : n2 - j = 0 ∨ bd = true := by revert h; cases bd <;> simp <;> omega
          rw [listP_stop rdPartR (n2 - j) ⟨k, bd⟩ hs, List.append_nil] at y2
          clear h hs ht
          have hq : okLen b.length := hf.1.1
          have hP : parseR b = ⟨nv, nf, ne, ns, im, nc, tr, acc, pa⟩ ∧ badR b = bd := by
            subst en2 eq3 eq4 eg2 en eq1 eq2 eg el eb env enf ene ens enc eim etr
            have x3 : goneP (hd8 b) = (acc, ⟨l, bad⟩) := x2
            have y3 : partsR ⟨l, bad⟩ = (pa, ⟨k, bd⟩) := y2
            unfold parseR badR
            rw [x3]
            dsimp only
            rw [y3]
            exact ⟨rfl, rfl⟩
          obtain ⟨hP, hbd⟩ := hP
          by_cases hb0 : bd = true ∨ b = []
          · have hgd0 : (bif bd then true else decide (((EV.u8 b).len : Int) = 0)) = true := by
              rcases hb0 with h1 | h1
              · rw [h1]; rfl
              · rw [h1]; cases bd <;> rfl
            have hgd : ¬ ((bif bd then true else decide (((EV.u8 b).len : Int) = 0)) = false) := by rw [hgd0]; exact fun h => by cases h
            have hok : okR b = false := by
              unfold okR
              rw [hbd]
              rcases hb0 with h1 | h1
              · rw [h1]; rfl
              · rw [decide_eq_true h1]; cases bd <;> rfl
            repeat' (first
                | ((with_reducible apply Sat.run (X := X64)); exact rfl; (first | exact True.intro | (exact phi) | skip))
                | ((with_reducible apply Sat.drawn); kernel_rfl)
                | ((with_reducible apply DSat.run (X := X64)); exact rfl; (first | exact True.intro | (exact phi) | skip))
                | ((with_reducible apply DSat.fin); kernel_rfl)
                | ((with_reducible apply Sat.cond_t); exact rfl)
                | ((with_reducible apply Sat.cond_f); exact rfl)
                | ((with_reducible apply Sat.cond_pt); exact rfl; (try dsimp only [V.EV.sub, V.EV.len]); first | assumption | omega)
                | ((with_reducible apply Sat.cond_pf); exact rfl; (try dsimp only [V.EV.sub, V.EV.len]); first | assumption | omega)
                | ((with_reducible apply Sat.cond_p); exact rfl; all_goals intro h)
                | ((with_reducible apply Sat.cond); exact rfl; all_goals intro h)
                | ((with_reducible apply Sat.goffM (.bool true)); exact rfl; exact hgd; exact rfl) | fail)
            · (refine Sat.fin (Sat.end2 rfl rfl rfl rfl True.intro True.intro (.agg _ _ (.cons _ _ _ _ (.refl _ trivial) (.cons _ _ _ _ (.refl _ trivial) (.cons _ _ _ _ (.refl _ trivial) (.cons _ _ _ _ (.refl _ trivial) (.cons _ _ _ _ (.refl _ trivial) (.cons _ _ _ _ (.refl _ trivial) (.cons _ _ _ _ (.refl _ trivial) (.cons _ _ _ _ (.nils (.ints .i64 []) rfl) (.cons _ _ _ _ (.nils (partsE []) rfl) .nil)))))))))) (.refl _ trivial) (by first | exact .inl rfl | exact .inr rfl) (fun _ h => h)) ?_; rw [hok]; rfl)
            · exfalso
              rw [hgd0] at h
              cases h
          · have hb1 : bd = false := by cases bd; rfl; exact absurd (.inl rfl) hb0
            have hb2 : b ≠ [] := fun h => hb0 (.inr h)
            have hgd : (bif bd then true else decide (((EV.u8 b).len : Int) = 0)) = false := by
              rw [hb1]
              exact decide_eq_false fun e => hb2 (List.eq_nil_of_length_eq_zero (by simp only [EV.len] at e; omega))
            repeat' (first
                | ((with_reducible apply Sat.run (X := X64)); exact rfl; (first | exact True.intro | (exact phi) | skip))
                | ((with_reducible apply Sat.drawn); kernel_rfl)
                | ((with_reducible apply DSat.run (X := X64)); exact rfl; (first | exact True.intro | (exact phi) | skip))
                | ((with_reducible apply DSat.fin); kernel_rfl)
                | ((with_reducible apply Sat.cond_t); exact rfl)
                | ((with_reducible apply Sat.cond_f); exact rfl)
                | ((with_reducible apply Sat.cond_pt); exact rfl; (try dsimp only [V.EV.sub, V.EV.len]); first | assumption | omega)
                | ((with_reducible apply Sat.cond_pf); exact rfl; (try dsimp only [V.EV.sub, V.EV.len]); first | assumption | omega)
                | ((with_reducible apply Sat.cond_p); exact rfl; all_goals intro h)
                | ((with_reducible apply Sat.cond); exact rfl; all_goals intro h)
                | ((with_reducible apply Sat.gon); exact rfl; exact hgd) | fail)
            refine Sat.freezeR true 3 rfl ?_ ?_
            · (repeat' (first | exact AllP.nil | with_reducible refine AllP.cons ?_ ?_)) <;> first | exact rfl | exact trivial | exact .inl ⟨rfl, rfl, rfl⟩ | (intro _ _; simp [pureL, pureS, pureE]; done) | (intro _ _; exact rfl) | (intro _; exact rfl) | (intro _; exact trivial) | (intro _; exact .inl ⟨rfl, rfl, rfl⟩) | (intro _ _ _; simp [pureL, pureS, pureE]; done) | exact ⟨rfl, rfl, rfl, rfl⟩ | (intro _; exact ⟨rfl, rfl, rfl, rfl⟩)
            refine Sat.freezeR true 4 rfl ?_ ?_
            · (repeat' (first | exact AllP.nil | with_reducible refine AllP.cons ?_ ?_)) <;> first | exact rfl | exact trivial | exact .inl ⟨rfl, rfl, rfl⟩ | (intro _ _; simp [pureL, pureS, pureE]; done) | (intro _ _; exact rfl) | (intro _; exact rfl) | (intro _; exact trivial) | (intro _; exact .inl ⟨rfl, rfl, rfl⟩) | (intro _ _ _; simp [pureL, pureS, pureE]; done) | exact ⟨rfl, rfl, rfl, rfl⟩ | (intro _; exact ⟨rfl, rfl, rfl, rfl⟩)
            by_cases hv : validB ⟨nv, nf, ne, ns, im, nc, tr, acc, pa⟩ = true
            · have p1 := bytesR_spec ⟨nv, nf, ne, ns, im, nc, tr, acc, pa⟩ hv
              have p2 := same_ref (bytesR ⟨nv, nf, ne, ns, im, nc, tr, acc, pa⟩) b
              by_cases he : bytesR ⟨nv, nf, ne, ns, im, nc, tr, acc, pa⟩ = b
              · rw [decide_eq_true he] at p2
                have hok : okR b = true := by unfold okR; rw [hbd, hP, hv, decide_eq_true he, decide_eq_false hb2, hb1]; rfl
                repeat' (first
                    | ((with_reducible apply Sat.run (X := X64)); exact rfl; (first | exact True.intro | (exact phi) | skip))
                    | ((with_reducible apply Sat.drawn); kernel_rfl)
                    | ((with_reducible apply DSat.run (X := X64)); exact rfl; (first | exact True.intro | (exact phi) | skip))
                    | ((with_reducible apply DSat.fin); kernel_rfl)
                    | ((with_reducible apply Sat.cond_t); exact rfl)
                    | ((with_reducible apply Sat.cond_f); exact rfl)
                    | ((with_reducible apply Sat.cond_pt); exact rfl; (try dsimp only [V.EV.sub, V.EV.len]); first | assumption | omega)
                    | ((with_reducible apply Sat.cond_pf); exact rfl; (try dsimp only [V.EV.sub, V.EV.len]); first | assumption | omega)
                    | ((with_reducible apply Sat.cond_p); exact rfl; all_goals intro h)
                    | ((with_reducible apply Sat.cond); exact rfl; all_goals intro h)
                    | ((with_reducible apply Sat.gon); exact rfl; exact hgd)
                    | ((with_reducible apply Sat.call (p1)); exact rfl; exact rfl; kernel_rfl; (exact cnvX); exact rfl)
                    | ((with_reducible apply DSat.call (p1)); exact rfl; exact rfl; kernel_rfl; (exact cnvX); exact rfl)
                    | ((with_reducible apply Sat.callR (p2)); exact rfl; exact rfl; exact rfl; kernel_rfl; (exact cnvX); exact rfl)
                    | ((with_reducible apply DSat.callR (p2)); exact rfl; exact rfl; exact rfl; kernel_rfl; (exact cnvX); exact rfl) | fail)
                · exfalso; rw [hgd] at h; cases h
                · (refine Sat.fin (Sat.end2 rfl rfl rfl rfl True.intro True.intro (.refl _ (by (repeat' (first | exact True.intro | (intro _ _; simp [pureL, pureS, pureE]; done) | apply And.intro)))) (.refl _ trivial) (by first | exact .inl rfl | exact .inr rfl) (fun _ h => h)) ?_; rw [hok, hP]; rfl)
              · rw [decide_eq_false he] at p2
                have hok : okR b = false := by unfold okR; rw [hP, decide_eq_false he]; simp
                repeat' (first
                    | ((with_reducible apply Sat.run (X := X64)); exact rfl; (first | exact True.intro | (exact phi) | skip))
                    | ((with_reducible apply Sat.drawn); kernel_rfl)
                    | ((with_reducible apply DSat.run (X := X64)); exact rfl; (first | exact True.intro | (exact phi) | skip))
                    | ((with_reducible apply DSat.fin); kernel_rfl)
                    | ((with_reducible apply Sat.cond_t); exact rfl)
                    | ((with_reducible apply Sat.cond_f); exact rfl)
                    | ((with_reducible apply Sat.cond_pt); exact rfl; (try dsimp only [V.EV.sub, V.EV.len]); first | assumption | omega)
                    | ((with_reducible apply Sat.cond_pf); exact rfl; (try dsimp only [V.EV.sub, V.EV.len]); first | assumption | omega)
                    | ((with_reducible apply Sat.cond_p); exact rfl; all_goals intro h)
                    | ((with_reducible apply Sat.cond); exact rfl; all_goals intro h)
                    | ((with_reducible apply Sat.gon); exact rfl; exact hgd)
                    | ((with_reducible apply Sat.call (p1)); exact rfl; exact rfl; kernel_rfl; (exact cnvX); exact rfl)
                    | ((with_reducible apply DSat.call (p1)); exact rfl; exact rfl; kernel_rfl; (exact cnvX); exact rfl)
                    | ((with_reducible apply Sat.callR (p2)); exact rfl; exact rfl; exact rfl; kernel_rfl; (exact cnvX); exact rfl)
                    | ((with_reducible apply DSat.callR (p2)); exact rfl; exact rfl; exact rfl; kernel_rfl; (exact cnvX); exact rfl) | fail)
                · (refine Sat.fin (Sat.end2 rfl rfl rfl rfl True.intro True.intro (.agg _ _ (.cons _ _ _ _ (.refl _ trivial) (.cons _ _ _ _ (.refl _ trivial) (.cons _ _ _ _ (.refl _ trivial) (.cons _ _ _ _ (.refl _ trivial) (.cons _ _ _ _ (.refl _ trivial) (.cons _ _ _ _ (.refl _ trivial) (.cons _ _ _ _ (.refl _ trivial) (.cons _ _ _ _ (.nils (.ints .i64 []) rfl) (.cons _ _ _ _ (.nils (partsE []) rfl) .nil)))))))))) (.refl _ trivial) (by first | exact .inl rfl | exact .inr rfl) (fun _ h => h)) ?_; rw [hok]; rfl)
                · exfalso; rw [hgd] at h; cases h
            · have hv' : validB ⟨nv, nf, ne, ns, im, nc, tr, acc, pa⟩ = false := by simpa using hv
              have p1 := bytesR_f ⟨nv, nf, ne, ns, im, nc, tr, acc, pa⟩ hv'
              have p2 := same_ref [] b
              rw [decide_eq_false (fun e : [] = b => hb2 e.symm)] at p2
              have hok : okR b = false := by unfold okR; rw [hP, hv']; simp
              repeat' (first
                  | ((with_reducible apply Sat.run (X := X64)); exact rfl; (first | exact True.intro | (exact phi) | skip))
                  | ((with_reducible apply Sat.drawn); kernel_rfl)
                  | ((with_reducible apply DSat.run (X := X64)); exact rfl; (first | exact True.intro | (exact phi) | skip))
                  | ((with_reducible apply DSat.fin); kernel_rfl)
                  | ((with_reducible apply Sat.cond_t); exact rfl)
                  | ((with_reducible apply Sat.cond_f); exact rfl)
                  | ((with_reducible apply Sat.cond_pt); exact rfl; (try dsimp only [V.EV.sub, V.EV.len]); first | assumption | omega)
                  | ((with_reducible apply Sat.cond_pf); exact rfl; (try dsimp only [V.EV.sub, V.EV.len]); first | assumption | omega)
                  | ((with_reducible apply Sat.cond_p); exact rfl; all_goals intro h)
                  | ((with_reducible apply Sat.cond); exact rfl; all_goals intro h)
                  | ((with_reducible apply Sat.gon); exact rfl; exact hgd)
                  | ((with_reducible apply Sat.call (p1)); exact rfl; exact rfl; kernel_rfl; (exact cnvX); exact rfl)
                  | ((with_reducible apply DSat.call (p1)); exact rfl; exact rfl; kernel_rfl; (exact cnvX); exact rfl)
                  | ((with_reducible apply Sat.callR (p2)); exact rfl; exact rfl; exact rfl; kernel_rfl; (exact cnvX); exact rfl)
                  | ((with_reducible apply DSat.callR (p2)); exact rfl; exact rfl; exact rfl; kernel_rfl; (exact cnvX); exact rfl) | fail)
              · (refine Sat.fin (Sat.end2 rfl rfl rfl rfl True.intro True.intro (.agg _ _ (.cons _ _ _ _ (.refl _ trivial) (.cons _ _ _ _ (.refl _ trivial) (.cons _ _ _ _ (.refl _ trivial) (.cons _ _ _ _ (.refl _ trivial) (.cons _ _ _ _ (.refl _ trivial) (.cons _ _ _ _ (.refl _ trivial) (.cons _ _ _ _ (.refl _ trivial) (.cons _ _ _ _ (.nils (.ints .i64 []) rfl) (.cons _ _ _ _ (.nils (partsE []) rfl) .nil)))))))))) (.refl _ trivial) (by first | exact .inl rfl | exact .inr rfl) (fun _ h => h)) ?_; rw [hok]; rfl)
              · exfalso; rw [hgd] at h; cases h
end Go.Proofs.YtegbdcadlmefgaaDoor
end
section
namespace Go.Proofs.YtegbdcadlmefgaaDoor
open Go.RowKit V
--PURE: (intro _ _; simp [pureL, pureS, pureE]; done)
set_option maxRecDepth 100000
set_option maxHeartbeats 4000000
set_option linter.unusedSimpArgs false
attribute [local irreducible] V.Sat V.DSat tkO tkR tkB tkZ numV hashO
def rdRoleR (s : RdS) : RoleL × RdS := (⟨tkZ (s.tk 1).l (s.num 1), (keysP ((s.tk 1).tk (s.num 1))).1, ((keysP ((s.tk 1).tk (s.num 1))).2.num 1 : Int)⟩, (keysP ((s.tk 1).tk (s.num 1))).2.tk 1)
def rolesR (s : RdS) : List RoleL × RdS := listP rdRoleR (s.num 1) (s.tk 1)
def parseRQ (b : List UInt8) : RootL := ⟨(numV (tkO (tkR b 1) 4) : Int), (numV (tkO (tkR (tkR b 1) 4) 4) : Int), (sumsP (hd3 b)).1, (rolesR (sumsP (hd3 b)).2).1⟩
def badRQ (b : List UInt8) : Bool := (rolesR (sumsP (hd3 b)).2).2.bad
def okRQ (b : List UInt8) : Bool := !badRQ b && (!decide (b = []) && (rootB (parseRQ b) && decide (bytesQ (parseRQ b) = b)))
theorem parseRootR_walk (b : List UInt8) : Fun Tryd.prog [] 28 [.ro (.u8 b)] (.tup [(bif okRQ b then parseRQ b else zeroRoot).v, .int .i64 (bif okRQ b then 0 else 260)]) := by
  refine Fun.mkF 7 Tryd.func28 rfl Tryd.ntmps28 rfl rfl fun hf T w0 => ?_
  have hN := numV_le (tkR (tkR (tkR b 1) 4) 4) 1
  repeat' (first
      | ((with_reducible apply Sat.run (X := X64)); exact rfl; (first | exact True.intro | (exact phi) | skip))
      | ((with_reducible apply Sat.drawn); kernel_rfl)
      | ((with_reducible apply DSat.run (X := X64)); exact rfl; (first | exact True.intro | (exact phi) | skip))
      | ((with_reducible apply DSat.fin); kernel_rfl)
      | ((with_reducible apply Sat.cond_t); exact rfl)
      | ((with_reducible apply Sat.cond_f); exact rfl)
      | ((with_reducible apply Sat.cond_pt); exact rfl; (try dsimp only [V.EV.sub, V.EV.len]); first | assumption | omega)
      | ((with_reducible apply Sat.cond_pf); exact rfl; (try dsimp only [V.EV.sub, V.EV.len]); first | assumption | omega)
      | ((with_reducible apply Sat.cond_p); exact rfl; all_goals intro h)
      | ((with_reducible apply Sat.cond); exact rfl; all_goals intro h)
      | ((with_reducible apply Sat.mcall (take1_rf _ _)); exact rfl; exact rfl; kernel_rfl; (exact cnvX); exact rfl; exact purX; exact rfl; exact rfl)
      | ((with_reducible apply DSat.mcall (take1_rf _ _)); exact rfl; exact rfl; kernel_rfl; (exact cnvX); exact rfl; exact purX; exact rfl; exact rfl)
      | ((with_reducible apply Sat.mcall (num4_rf _ _)); exact rfl; exact rfl; kernel_rfl; (exact cnvX); exact rfl; exact purX; exact rfl; exact rfl)
      | ((with_reducible apply DSat.mcall (num4_rf _ _)); exact rfl; exact rfl; kernel_rfl; (exact cnvX); exact rfl; exact purX; exact rfl; exact rfl)
      | ((with_reducible apply Sat.mcall (num1_rf _ _)); exact rfl; exact rfl; kernel_rfl; (exact cnvX); exact rfl; exact purX; exact rfl; exact rfl)
      | ((with_reducible apply DSat.mcall (num1_rf _ _)); exact rfl; exact rfl; kernel_rfl; (exact cnvX); exact rfl; exact purX; exact rfl; exact rfl) | fail)
  generalize el : (tkR (tkR (tkR b 1) 4) 4) = l8 at hN ⊢
  generalize eb : (tkB (tkR (tkR b 1) 4) (tkB (tkR b 1) (tkB b false 1) 4) 4) = b8
  have hng := numV_le (tkR b 1) 4
  generalize eng : numV (tkO (tkR b 1) 4) = ng at hng ⊢
  have hne := numV_le (tkR (tkR b 1) 4) 4
  generalize ene : numV (tkO (tkR (tkR b 1) 4) 4) = ne at hne ⊢
  generalize eg : listP rdSum (numV (tkO l8 1)) ⟨tkR l8 1, tkB l8 b8 1⟩ = gp
  generalize en : numV (tkO l8 1) = n0 at hN eg ⊢
  generalize eq1 : tkR l8 1 = l9 at eg ⊢
  generalize eq2 : tkB l8 b8 1 = b9 at eg ⊢
  apply Sat.loop (α := Nat × RdS × List (List UInt8)) (fun x => x.1 ≤ n0 ∧ x.2.2.length = x.1 ∧ gp = (x.2.2 ++ (listP rdSum (n0 - x.1) x.2.1).1, (listP rdSum (n0 - x.1) x.2.1).2)) (fun x => n0 - x.1) (0, ⟨l9, b9⟩, []) (fun x => [(7, .int .i64 (x.1 : Int))]) (fun x => [(1, .cells 131 [.ro (.u8 x.2.1.l), .bool x.2.1.bad]), (2, .cells 31 [.int .i64 ng, .int .i64 ne, .row 3 0 32 0 x.2.2.length, .nils]), (3, .row 23 (keysE x.2.2))]) [] [(3, none)] 1
  · intro x; exact rfl
  · intro x; exact rfl
  · exact rfl
  · exact rfl
  · (repeat' (first | exact AllP.nil | with_reducible refine AllP.cons ?_ ?_)) <;> first | with_reducible exact rfl | exact rfl | exact trivial | (intro _ _; simp [pureL, pureS, pureE]; done) | exact ⟨rfl, rfl, rfl, rfl⟩
  · exact ⟨Nat.zero_le _, rfl, by rw [← eg]; rfl⟩
  · rintro ⟨i, s, acc⟩ ⟨x0, x1, x2⟩
    obtain ⟨l, bad⟩ := s
    dsimp only at x0 x1 x2 ⊢
    repeat' (first
        | ((with_reducible apply Sat.run (X := X64)); exact rfl; (first | exact True.intro | (exact phi) | skip))
        | ((with_reducible apply Sat.drawn); kernel_rfl)
        | ((with_reducible apply DSat.run (X := X64)); exact rfl; (first | exact True.intro | (exact phi) | skip))
        | ((with_reducible apply DSat.fin); kernel_rfl)
        | ((with_reducible apply Sat.cond_t); exact rfl)
        | ((with_reducible apply Sat.cond_f); exact rfl)
        | ((with_reducible apply Sat.cond_pt); exact rfl; (try dsimp only [V.EV.sub, V.EV.len]); first | assumption | omega)
        | ((with_reducible apply Sat.cond_pf); exact rfl; (try dsimp only [V.EV.sub, V.EV.len]); first | assumption | omega)
        | ((with_reducible apply Sat.cond_p); exact rfl; all_goals (intro h; (try simp only [V.EV.sub, V.EV.len] at h)))
        | ((with_reducible apply Sat.cond); exact rfl; all_goals (intro h; (try simp only [V.EV.sub, V.EV.len, Bool.cond_true_left, Bool.cond_false_right, Bool.or_eq_true, Bool.and_eq_true, Bool.or_eq_false_iff, Bool.and_eq_false_iff, Bool.not_eq_true', Bool.not_eq_false', decide_eq_true_eq, decide_eq_false_iff_not, ne_eq] at h)))
        | ((with_reducible apply Sat.mcall (sumR_spec _ _)); exact rfl; exact rfl; kernel_rfl; (exact cnvX); exact rfl; exact purX; exact rfl; exact rfl)
        | ((with_reducible apply DSat.mcall (sumR_spec _ _)); exact rfl; exact rfl; kernel_rfl; (exact cnvX); exact rfl; exact purX; exact rfl; exact rfl) | fail)
    · obtain ⟨hn, hb⟩ : i < n0 ∧ bad = false := by revert h; cases bad <;> simp <;> omega
      refine Sat.back (i + 1, ⟨tkR l 32, tkB l bad 32⟩, acc ++ [hashO l]) [(3, some 5)] rfl ?_ ?_ ?_
      · (repeat' (first | exact AllP.nil | with_reducible refine AllP.cons ?_ ?_)) <;> first | with_reducible exact rfl | exact Int.natCast_add_one _ | (show acc.length + 1 = (acc ++ [hashO l]).length; simp; done) | exact sums_pure acc (hashO l) | (intro i hi; exact sums_snoc acc (hashO l) i hi) | (show _ = (acc ++ [hashO l]).length; simp [EV.len, EV.sub]; done) | (refine ⟨rfl, rfl, rfl, ?_⟩; show _ = (acc ++ [hashO l]).length; simp [EV.len, EV.sub]; done) | exact rfl | exact trivial | (intro _ _; simp [pureL, pureS, pureE]; done) | exact ⟨rfl, rfl, rfl, rfl⟩
      · refine ⟨hn, by simp only [List.length_append, List.length_cons, List.length_nil]; omega, ?_⟩
        dsimp only
        rw [x2, listP_next rdSum (n0 - i) ⟨l, bad⟩ (by omega) hb, show n0 - (i + 1) = n0 - i - 1 by omega]
        simp only [List.append_assoc, List.cons_append, List.nil_append]
        rfl
      · dsimp only; omega
    · have hs : n0 - i = 0 ∨ bad = true := by revert h; cases bad <;> simp <;> omega
      rw [listP_stop rdSum (n0 - i) ⟨l, bad⟩ hs, List.append_nil] at x2
      have hacc : acc.length ≤ 255 := by omega
      clear h hs
      have hN2 := numV_le l 1
      repeat' (first
          | ((with_reducible apply Sat.run (X := X64)); exact rfl; (first | exact True.intro | (exact phi) | skip))
          | ((with_reducible apply Sat.drawn); kernel_rfl)
          | ((with_reducible apply DSat.run (X := X64)); exact rfl; (first | exact True.intro | (exact phi) | skip))
          | ((with_reducible apply DSat.fin); kernel_rfl)
          | ((with_reducible apply Sat.cond_t); exact rfl)
          | ((with_reducible apply Sat.cond_f); exact rfl)
          | ((with_reducible apply Sat.cond_pt); exact rfl; (try dsimp only [V.EV.sub, V.EV.len]); first | assumption | omega)
          | ((with_reducible apply Sat.cond_pf); exact rfl; (try dsimp only [V.EV.sub, V.EV.len]); first | assumption | omega)
          | ((with_reducible apply Sat.cond_p); exact rfl; all_goals intro h)
          | ((with_reducible apply Sat.cond); exact rfl; all_goals intro h)
          | ((with_reducible apply Sat.mcall (num1_rf _ _)); exact rfl; exact rfl; kernel_rfl; (exact cnvX); exact rfl; exact purX; exact rfl; exact rfl)
          | ((with_reducible apply DSat.mcall (num1_rf _ _)); exact rfl; exact rfl; kernel_rfl; (exact cnvX); exact rfl; exact purX; exact rfl; exact rfl) | fail)
      generalize eg2 : listP rdRoleR (numV (tkO l 1)) ⟨tkR l 1, tkB l bad 1⟩ = pp
      generalize en2 : numV (tkO l 1) = n2 at hN2 eg2 ⊢
      generalize eq3 : tkR l 1 = l10 at eg2 ⊢
      generalize eq4 : tkB l bad 1 = b10 at eg2 ⊢
      apply Sat.loop (α := Nat × RdS × List RoleL) (fun x => x.1 ≤ n2 ∧ x.2.2.length = x.1 ∧ pp = (x.2.2 ++ (listP rdRoleR (n2 - x.1) x.2.1).1, (listP rdRoleR (n2 - x.1) x.2.1).2)) (fun x => n2 - x.1) (0, ⟨l10, b10⟩, []) (fun x => [(8, .int .i64 (x.1 : Int))]) (fun x => [(1, .cells 131 [.ro (.u8 x.2.1.l), .bool x.2.1.bad]), (2, .cells 31 [.int .i64 ng, .int .i64 ne, .row 3 0 32 0 acc.length, .row 4 0 3 0 x.2.2.length]), (4, .row 68 (rolesE x.2.2))]) [] [(4, none)] 1
      · intro x; exact rfl
      · intro x; exact rfl
      · exact rfl
      · exact rfl
      · (repeat' (first | exact AllP.nil | with_reducible refine AllP.cons ?_ ?_)) <;> first | with_reducible exact rfl | exact rfl | exact trivial | (intro _ _; simp [pureL, pureS, pureE]; done) | exact ⟨rfl, rfl, rfl, rfl⟩
      · exact ⟨Nat.zero_le _, rfl, by rw [← eg2]; rfl⟩
      · rintro ⟨j, s, pa⟩ ⟨y0, y1, y2⟩
        obtain ⟨k, bd⟩ := s
        dsimp only at y0 y1 y2 ⊢
        have hk := numV_le k 1
        have ht := takeR_spec (tkR k 1) (tkB k bd 1) (numV (tkO k 1)) (by omega)
        have hN3 := numV_le (tkR (tkR k 1) (numV (tkO k 1))) 1
        repeat' (first
            | ((with_reducible apply Sat.run (X := X64)); exact rfl; (first | exact True.intro | (exact phi) | skip))
            | ((with_reducible apply Sat.drawn); kernel_rfl)
            | ((with_reducible apply DSat.run (X := X64)); exact rfl; (first | exact True.intro | (exact phi) | skip))
            | ((with_reducible apply DSat.fin); kernel_rfl)
            | ((with_reducible apply Sat.cond_t); exact rfl)
            | ((with_reducible apply Sat.cond_f); exact rfl)
            | ((with_reducible apply Sat.cond_pt); exact rfl; (try dsimp only [V.EV.sub, V.EV.len]); first | assumption | omega)
            | ((with_reducible apply Sat.cond_pf); exact rfl; (try dsimp only [V.EV.sub, V.EV.len]); first | assumption | omega)
            | ((with_reducible apply Sat.cond_p); exact rfl; all_goals (intro h; (try simp only [V.EV.sub, V.EV.len] at h)))
            | ((with_reducible apply Sat.cond); exact rfl; all_goals (intro h; (try simp only [V.EV.sub, V.EV.len, Bool.cond_true_left, Bool.cond_false_right, Bool.or_eq_true, Bool.and_eq_true, Bool.or_eq_false_iff, Bool.and_eq_false_iff, Bool.not_eq_true', Bool.not_eq_false', decide_eq_true_eq, decide_eq_false_iff_not, ne_eq] at h)))
            | ((with_reducible apply Sat.mcall (num1_rf k bd)); exact rfl; exact rfl; kernel_rfl; (exact cnvX); exact rfl; exact purX; exact rfl; exact rfl)
            | ((with_reducible apply DSat.mcall (num1_rf k bd)); exact rfl; exact rfl; kernel_rfl; (exact cnvX); exact rfl; exact purX; exact rfl; exact rfl)
            | ((with_reducible apply Sat.mcall (ht)); exact rfl; exact rfl; kernel_rfl; (exact cnvX); exact rfl; exact purX; exact rfl; exact rfl)
            | ((with_reducible apply DSat.mcall (ht)); exact rfl; exact rfl; kernel_rfl; (exact cnvX); exact rfl; exact purX; exact rfl; exact rfl)
            | ((with_reducible apply Sat.mcall (num1_rf (tkR (tkR k 1) (numV (tkO k 1))) (tkB (tkR k 1) (tkB k bd 1) (numV (tkO k 1))))); exact rfl; exact rfl; kernel_rfl; (exact cnvX); exact rfl; exact purX; exact rfl; exact rfl)
            | ((with_reducible apply DSat.mcall (num1_rf (tkR (tkR k 1) (numV (tkO k 1))) (tkB (tkR k 1) (tkB k bd 1) (numV (tkO k 1))))); exact rfl; exact rfl; kernel_rfl; (exact cnvX); exact rfl; exact purX; exact rfl; exact rfl) | fail)
        · obtain ⟨hm1, hm2⟩ : j < n2 ∧ bd = false := by revert h; cases bd <;> simp <;> omega
          clear h
          generalize eg3 : listP rdInt1 (numV (tkO (tkR (tkR k 1) (numV (tkO k 1))) 1)) ⟨tkR (tkR (tkR k 1) (numV (tkO k 1))) 1, tkB (tkR (tkR k 1) (numV (tkO k 1))) (tkB (tkR k 1) (tkB k bd 1) (numV (tkO k 1))) 1⟩ = kp
          generalize en3 : numV (tkO (tkR (tkR k 1) (numV (tkO k 1))) 1) = n3 at hN3 eg3 ⊢
          generalize eq5 : tkR (tkR (tkR k 1) (numV (tkO k 1))) 1 = l11 at eg3 ⊢
          generalize eq6 : tkB (tkR (tkR k 1) (numV (tkO k 1))) (tkB (tkR k 1) (tkB k bd 1) (numV (tkO k 1))) 1 = b11 at eg3 ⊢
          apply Sat.loop (α := Nat × RdS × List Int) (fun x => x.1 ≤ n3 ∧ x.2.2.length = x.1 ∧ kp = (x.2.2 ++ (listP rdInt1 (n3 - x.1) x.2.1).1, (listP rdInt1 (n3 - x.1) x.2.1).2)) (fun x => n3 - x.1) (0, ⟨l11, b11⟩, []) (fun x => [(11, .int .i64 (x.1 : Int))]) (fun x => [(1, .cells 131 [.ro (.u8 x.2.1.l), .bool x.2.1.bad]), (5, .cells 68 [.str (tkZ (tkR k 1) (numV (tkO k 1))), .row 6 0 1 0 x.2.2.length, .int .i64 0]), (6, .row 3 (.ints .i64 x.2.2))]) [] [(6, none)] 1
          · intro x; exact rfl
          · intro x; exact rfl
          · exact rfl
          · exact rfl
          · (repeat' (first | exact AllP.nil | with_reducible refine AllP.cons ?_ ?_)) <;> first | with_reducible exact rfl | exact rfl | exact trivial | (intro _ _; simp [pureL, pureS, pureE]; done) | exact ⟨rfl, rfl, rfl, rfl⟩
          · exact ⟨Nat.zero_le _, rfl, by rw [← eg3]; rfl⟩
          · rintro ⟨u, s, kk⟩ ⟨z0, z1, z2⟩
            obtain ⟨l3, b3⟩ := s
            dsimp only at z0 z1 z2 ⊢
            repeat' (first
                | ((with_reducible apply Sat.run (X := X64)); exact rfl; (first | exact True.intro | (exact phi) | skip))
                | ((with_reducible apply Sat.drawn); kernel_rfl)
                | ((with_reducible apply DSat.run (X := X64)); exact rfl; (first | exact True.intro | (exact phi) | skip))
                | ((with_reducible apply DSat.fin); kernel_rfl)
                | ((with_reducible apply Sat.cond_t); exact rfl)
                | ((with_reducible apply Sat.cond_f); exact rfl)
                | ((with_reducible apply Sat.cond_pt); exact rfl; (try dsimp only [V.EV.sub, V.EV.len]); first | assumption | omega)
                | ((with_reducible apply Sat.cond_pf); exact rfl; (try dsimp only [V.EV.sub, V.EV.len]); first | assumption | omega)
                | ((with_reducible apply Sat.cond_p); exact rfl; all_goals (intro h; (try simp only [V.EV.sub, V.EV.len] at h)))
                | ((with_reducible apply Sat.cond); exact rfl; all_goals (intro h; (try simp only [V.EV.sub, V.EV.len, Bool.cond_true_left, Bool.cond_false_right, Bool.or_eq_true, Bool.and_eq_true, Bool.or_eq_false_iff, Bool.and_eq_false_iff, Bool.not_eq_true', Bool.not_eq_false', decide_eq_true_eq, decide_eq_false_iff_not, ne_eq] at h))) | fail)
            · obtain ⟨hn, hb⟩ : u < n3 ∧ b3 = false := by revert h; cases b3 <;> simp <;> omega
              repeat' (first
                  | ((with_reducible apply Sat.run (X := X64)); exact rfl; (first | exact True.intro | (exact phi) | skip))
                  | ((with_reducible apply Sat.drawn); kernel_rfl)
                  | ((with_reducible apply DSat.run (X := X64)); exact rfl; (first | exact True.intro | (exact phi) | skip))
                  | ((with_reducible apply DSat.fin); kernel_rfl)
                  | ((with_reducible apply Sat.cond_t); exact rfl)
                  | ((with_reducible apply Sat.cond_f); exact rfl)
                  | ((with_reducible apply Sat.cond_pt); exact rfl; (try dsimp only [V.EV.sub, V.EV.len]); first | assumption | omega)
                  | ((with_reducible apply Sat.cond_pf); exact rfl; (try dsimp only [V.EV.sub, V.EV.len]); first | assumption | omega)
                  | ((with_reducible apply Sat.cond_p); exact rfl; all_goals intro h)
                  | ((with_reducible apply Sat.cond); exact rfl; all_goals intro h)
                  | ((with_reducible apply Sat.mcall (num1_rf l3 b3)); exact rfl; exact rfl; kernel_rfl; (exact cnvX); exact rfl; exact purX; exact rfl; exact rfl)
                  | ((with_reducible apply DSat.mcall (num1_rf l3 b3)); exact rfl; exact rfl; kernel_rfl; (exact cnvX); exact rfl; exact purX; exact rfl; exact rfl) | fail)
              refine Sat.back (u + 1, ⟨tkR l3 1, tkB l3 b3 1⟩, kk ++ [(numV (tkO l3 1) : Int)]) [(6, some 8)] rfl ?_ ?_ ?_
              · (repeat' (first | exact AllP.nil | with_reducible refine AllP.cons ?_ ?_)) <;> first | with_reducible exact rfl | exact Int.natCast_add_one _ | (show _ = (kk ++ [(numV (tkO l3 1) : Int)]).length; simp [EV.len, EV.sub]; done) | (refine ⟨rfl, rfl, rfl, ?_⟩; show _ = (kk ++ [(numV (tkO l3 1) : Int)]).length; simp [EV.len, EV.sub]; done) | exact rfl | exact trivial | (intro _ _; simp [pureL, pureS, pureE]; done) | exact ⟨rfl, rfl, rfl, rfl⟩
              · refine ⟨hn, by simp only [List.length_append, List.length_cons, List.length_nil]; omega, ?_⟩
                dsimp only
                rw [z2, listP_next rdInt1 (n3 - u) ⟨l3, b3⟩ (by omega) hb, show n3 - (u + 1) = n3 - u - 1 by omega]
                simp only [List.append_assoc, List.cons_append, List.nil_append]
                rfl
              · dsimp only; omega
            · have hs : n3 - u = 0 ∨ b3 = true := by revert h; cases b3 <;> simp <;> omega
              rw [listP_stop rdInt1 (n3 - u) ⟨l3, b3⟩ hs, List.append_nil] at z2
              clear h hs
              refine Sat.freezeR true 6 rfl ?_ ?_
              · (repeat' (first | exact AllP.nil | with_reducible refine AllP.cons ?_ ?_)) <;> first | exact rfl | exact trivial | exact .inl ⟨rfl, rfl, rfl⟩ | (intro _ _; simp [pureL, pureS, pureE]; done) | (intro _ _; exact rfl) | (intro _; exact rfl) | (intro _; exact trivial) | (intro _; exact .inl ⟨rfl, rfl, rfl⟩) | (intro _ _ _; simp [pureL, pureS, pureE]; done) | exact ⟨rfl, rfl, rfl, rfl⟩ | (intro _; exact ⟨rfl, rfl, rfl, rfl⟩)
              repeat' (first
                  | ((with_reducible apply Sat.run (X := X64)); exact rfl; (first | exact True.intro | (exact phi) | skip))
                  | ((with_reducible apply Sat.drawn); kernel_rfl)
                  | ((with_reducible apply DSat.run (X := X64)); exact rfl; (first | exact True.intro | (exact phi) | skip))
                  | ((with_reducible apply DSat.fin); kernel_rfl)
                  | ((with_reducible apply Sat.cond_t); exact rfl)
                  | ((with_reducible apply Sat.cond_f); exact rfl)
                  | ((with_reducible apply Sat.cond_pt); exact rfl; (try dsimp only [V.EV.sub, V.EV.len]); first | assumption | omega)
                  | ((with_reducible apply Sat.cond_pf); exact rfl; (try dsimp only [V.EV.sub, V.EV.len]); first | assumption | omega)
                  | ((with_reducible apply Sat.cond_p); exact rfl; all_goals intro h)
                  | ((with_reducible apply Sat.cond); exact rfl; all_goals intro h)
                  | ((with_reducible apply Sat.mcall (num1_rf _ _)); exact rfl; exact rfl; kernel_rfl; (exact cnvX); exact rfl; exact purX; exact rfl; exact rfl)
                  | ((with_reducible apply DSat.mcall (num1_rf _ _)); exact rfl; exact rfl; kernel_rfl; (exact cnvX); exact rfl; exact purX; exact rfl; exact rfl) | fail)
              refine Sat.back (j + 1, ⟨tkR l3 1, tkB l3 b3 1⟩, pa ++ [(⟨tkZ (tkR k 1) (numV (tkO k 1)), kk, (numV (tkO l3 1) : Int)⟩ : RoleL)]) [(4, some 8)] rfl ?_ ?_ ?_
              · (repeat' (first | exact AllP.nil | with_reducible refine AllP.cons ?_ ?_)) <;> first | with_reducible exact rfl | exact Int.natCast_add_one _ | (show pa.length + 1 = (pa ++ [(⟨tkZ (tkR k 1) (numV (tkO k 1)), kk, (numV (tkO l3 1) : Int)⟩ : RoleL)]).length; simp; done) | exact roles_pure pa (⟨tkZ (tkR k 1) (numV (tkO k 1)), kk, (numV (tkO l3 1) : Int)⟩ : RoleL) | (intro i hi; exact roles_snoc pa (⟨tkZ (tkR k 1) (numV (tkO k 1)), kk, (numV (tkO l3 1) : Int)⟩ : RoleL) i hi) | (show _ = (pa ++ [(⟨tkZ (tkR k 1) (numV (tkO k 1)), kk, (numV (tkO l3 1) : Int)⟩ : RoleL)]).length; simp [EV.len, EV.sub]; done) | (refine ⟨rfl, rfl, rfl, ?_⟩; show _ = (pa ++ [(⟨tkZ (tkR k 1) (numV (tkO k 1)), kk, (numV (tkO l3 1) : Int)⟩ : RoleL)]).length; simp [EV.len, EV.sub]; done) | exact rfl | exact trivial | (intro _ _; simp [pureL, pureS, pureE]; done) | exact ⟨rfl, rfl, rfl, rfl⟩
              · refine ⟨hm1, by simp only [List.length_append, List.length_cons, List.length_nil]; omega, ?_⟩
                dsimp only
                have z3 : rdRoleR ⟨k, bd⟩ = ((⟨tkZ (tkR k 1) (numV (tkO k 1)), kk, (numV (tkO l3 1) : Int)⟩ : RoleL), ⟨tkR l3 1, tkB l3 b3 1⟩) := by
                  subst en3 eq5 eq6 eg3
                  have z4 : keysP ⟨(tkR (tkR k 1) (numV (tkO k 1))), (tkB (tkR k 1) (tkB k bd 1) (numV (tkO k 1)))⟩ = (kk, ⟨l3, b3⟩) := z2
                  unfold rdRoleR
                  dsimp only
                  rw [z4]
                rw [y2, listP_next rdRoleR (n2 - j) ⟨k, bd⟩ (by omega) hm2, z3, show n2 - (j + 1) = n2 - j - 1 by omega]
                simp only [List.append_assoc, List.cons_append, List.nil_append]
              · dsimp only; omega
        · have hs : n2 - j = 0 ∨ bd = true := by revert h; cases bd <;> simp <;> omega
          rw [listP_stop rdRoleR (n2 - j) ⟨k, bd⟩ hs, List.append_nil] at y2
          clear h hs ht hN3
          have hq : okLen b.length := hf.1.1
          have hP : parseRQ b = ⟨ng, ne, acc, pa⟩ ∧ badRQ b = bd := by
            subst en2 eq3 eq4 eg2 en eq1 eq2 eg el eb eng ene
            have x3 : sumsP (hd3 b) = (acc, ⟨l, bad⟩) := x2
            have y3 : rolesR ⟨l, bad⟩ = (pa, ⟨k, bd⟩) := y2
            unfold parseRQ badRQ
            rw [x3]
            dsimp only
            rw [y3]
            exact ⟨rfl, rfl⟩
          obtain ⟨hP, hbd⟩ := hP
          by_cases hb0 : bd = true ∨ b = []
          · have hgd0 : (bif bd then true else decide (((EV.u8 b).len : Int) = 0)) = true := by
              rcases hb0 with h1 | h1
              · rw [h1]; rfl
              · rw [h1]; cases bd <;> rfl
            have hgd : ¬ ((bif bd then true else decide (((EV.u8 b).len : Int) = 0)) = false) := by rw [hgd0]; exact fun h => by cases h
            have hok : okRQ b = false := by
              unfold okRQ
              rw [hbd]
              rcases hb0 with h1 | h1
              · rw [h1]; rfl
              · rw [decide_eq_true h1]; cases bd <;> rfl
            repeat' (first
                | ((with_reducible apply Sat.run (X := X64)); exact rfl; (first | exact True.intro | (exact phi) | skip))
                | ((with_reducible apply Sat.drawn); kernel_rfl)
                | ((with_reducible apply DSat.run (X := X64)); exact rfl; (first | exact True.intro | (exact phi) | skip))
                | ((with_reducible apply DSat.fin); kernel_rfl)
                | ((with_reducible apply Sat.cond_t); exact rfl)
                | ((with_reducible apply Sat.cond_f); exact rfl)
                | ((with_reducible apply Sat.cond_pt); exact rfl; (try dsimp only [V.EV.sub, V.EV.len]); first | assumption | omega)
                | ((with_reducible apply Sat.cond_pf); exact rfl; (try dsimp only [V.EV.sub, V.EV.len]); first | assumption | omega)
                | ((with_reducible apply Sat.cond_p); exact rfl; all_goals intro h)
                | ((with_reducible apply Sat.cond); exact rfl; all_goals intro h)
                | ((with_reducible apply Sat.goffM (.bool true)); exact rfl; exact hgd; exact rfl) | fail)
            · (refine Sat.fin (Sat.end2 rfl rfl rfl rfl True.intro True.intro (.agg _ _ (.cons _ _ _ _ (.refl _ trivial) (.cons _ _ _ _ (.refl _ trivial) (.cons _ _ _ _ (.nils (keysE []) rfl) (.cons _ _ _ _ (.nils (rolesE []) rfl) .nil))))) (.refl _ trivial) (by first | exact .inl rfl | exact .inr rfl) (fun _ h => h)) ?_; rw [hok]; rfl)
            · exfalso
              rw [hgd0] at h
              cases h
          · have hb1 : bd = false := by cases bd; rfl; exact absurd (.inl rfl) hb0
            have hb2 : b ≠ [] := fun h => hb0 (.inr h)
            have hgd : (bif bd then true else decide (((EV.u8 b).len : Int) = 0)) = false := by
              rw [hb1]
              exact decide_eq_false fun e => hb2 (List.eq_nil_of_length_eq_zero (by simp only [EV.len] at e; omega))
            repeat' (first
                | ((with_reducible apply Sat.run (X := X64)); exact rfl; (first | exact True.intro | (exact phi) | skip))
                | ((with_reducible apply Sat.drawn); kernel_rfl)
                | ((with_reducible apply DSat.run (X := X64)); exact rfl; (first | exact True.intro | (exact phi) | skip))
                | ((with_reducible apply DSat.fin); kernel_rfl)
                | ((with_reducible apply Sat.cond_t); exact rfl)
                | ((with_reducible apply Sat.cond_f); exact rfl)
                | ((with_reducible apply Sat.cond_pt); exact rfl; (try dsimp only [V.EV.sub, V.EV.len]); first | assumption | omega)
                | ((with_reducible apply Sat.cond_pf); exact rfl; (try dsimp only [V.EV.sub, V.EV.len]); first | assumption | omega)
                | ((with_reducible apply Sat.cond_p); exact rfl; all_goals intro h)
                | ((with_reducible apply Sat.cond); exact rfl; all_goals intro h)
                | ((with_reducible apply Sat.gon); exact rfl; exact hgd) | fail)
            refine Sat.freezeR true 3 rfl ?_ ?_
            · (repeat' (first | exact AllP.nil | with_reducible refine AllP.cons ?_ ?_)) <;> first | exact rfl | exact trivial | exact .inl ⟨rfl, rfl, rfl⟩ | (intro _ _; simp [pureL, pureS, pureE]; done) | (intro _ _; exact rfl) | (intro _; exact rfl) | (intro _; exact trivial) | (intro _; exact .inl ⟨rfl, rfl, rfl⟩) | (intro _ _ _; simp [pureL, pureS, pureE]; done) | exact ⟨rfl, rfl, rfl, rfl⟩ | (intro _; exact ⟨rfl, rfl, rfl, rfl⟩)
            refine Sat.freezeR true 4 rfl ?_ ?_
            · (repeat' (first | exact AllP.nil | with_reducible refine AllP.cons ?_ ?_)) <;> first | exact rfl | exact trivial | exact .inl ⟨rfl, rfl, rfl⟩ | (intro _ _; simp [pureL, pureS, pureE]; done) | (intro _ _; exact rfl) | (intro _; exact rfl) | (intro _; exact trivial) | (intro _; exact .inl ⟨rfl, rfl, rfl⟩) | (intro _ _ _; simp [pureL, pureS, pureE]; done) | exact ⟨rfl, rfl, rfl, rfl⟩ | (intro _; exact ⟨rfl, rfl, rfl, rfl⟩)
            by_cases hv : rootB ⟨ng, ne, acc, pa⟩ = true
            · have p1 := rootBytesR_spec ⟨ng, ne, acc, pa⟩ hv
              have p2 := same_ref (bytesQ ⟨ng, ne, acc, pa⟩) b
              by_cases he : bytesQ ⟨ng, ne, acc, pa⟩ = b
              · rw [decide_eq_true he] at p2
                have hok : okRQ b = true := by unfold okRQ; rw [hbd, hP, hv, decide_eq_true he, decide_eq_false hb2, hb1]; rfl
                repeat' (first
                    | ((with_reducible apply Sat.run (X := X64)); exact rfl; (first | exact True.intro | (exact phi) | skip))
                    | ((with_reducible apply Sat.drawn); kernel_rfl)
                    | ((with_reducible apply DSat.run (X := X64)); exact rfl; (first | exact True.intro | (exact phi) | skip))
                    | ((with_reducible apply DSat.fin); kernel_rfl)
                    | ((with_reducible apply Sat.cond_t); exact rfl)
                    | ((with_reducible apply Sat.cond_f); exact rfl)
                    | ((with_reducible apply Sat.cond_pt); exact rfl; (try dsimp only [V.EV.sub, V.EV.len]); first | assumption | omega)
                    | ((with_reducible apply Sat.cond_pf); exact rfl; (try dsimp only [V.EV.sub, V.EV.len]); first | assumption | omega)
                    | ((with_reducible apply Sat.cond_p); exact rfl; all_goals intro h)
                    | ((with_reducible apply Sat.cond); exact rfl; all_goals intro h)
                    | ((with_reducible apply Sat.gon); exact rfl; exact hgd)
                    | ((with_reducible apply Sat.call (p1)); exact rfl; exact rfl; kernel_rfl; (exact cnvX); exact rfl)
                    | ((with_reducible apply DSat.call (p1)); exact rfl; exact rfl; kernel_rfl; (exact cnvX); exact rfl)
                    | ((with_reducible apply Sat.callR (p2)); exact rfl; exact rfl; exact rfl; kernel_rfl; (exact cnvX); exact rfl)
                    | ((with_reducible apply DSat.callR (p2)); exact rfl; exact rfl; exact rfl; kernel_rfl; (exact cnvX); exact rfl) | fail)
                · exfalso; rw [hgd] at h; cases h
                · (refine Sat.fin (Sat.end2 rfl rfl rfl rfl True.intro True.intro (.refl _ (by (repeat' (first | exact True.intro | (intro _ _; simp [pureL, pureS, pureE]; done) | apply And.intro)))) (.refl _ trivial) (by first | exact .inl rfl | exact .inr rfl) (fun _ h => h)) ?_; rw [hok, hP]; rfl)
              · rw [decide_eq_false he] at p2
                have hok : okRQ b = false := by unfold okRQ; rw [hP, decide_eq_false he]; simp
                repeat' (first
                    | ((with_reducible apply Sat.run (X := X64)); exact rfl; (first | exact True.intro | (exact phi) | skip))
                    | ((with_reducible apply Sat.drawn); kernel_rfl)
                    | ((with_reducible apply DSat.run (X := X64)); exact rfl; (first | exact True.intro | (exact phi) | skip))
                    | ((with_reducible apply DSat.fin); kernel_rfl)
                    | ((with_reducible apply Sat.cond_t); exact rfl)
                    | ((with_reducible apply Sat.cond_f); exact rfl)
                    | ((with_reducible apply Sat.cond_pt); exact rfl; (try dsimp only [V.EV.sub, V.EV.len]); first | assumption | omega)
                    | ((with_reducible apply Sat.cond_pf); exact rfl; (try dsimp only [V.EV.sub, V.EV.len]); first | assumption | omega)
                    | ((with_reducible apply Sat.cond_p); exact rfl; all_goals intro h)
                    | ((with_reducible apply Sat.cond); exact rfl; all_goals intro h)
                    | ((with_reducible apply Sat.gon); exact rfl; exact hgd)
                    | ((with_reducible apply Sat.call (p1)); exact rfl; exact rfl; kernel_rfl; (exact cnvX); exact rfl)
                    | ((with_reducible apply DSat.call (p1)); exact rfl; exact rfl; kernel_rfl; (exact cnvX); exact rfl)
                    | ((with_reducible apply Sat.callR (p2)); exact rfl; exact rfl; exact rfl; kernel_rfl; (exact cnvX); exact rfl)
                    | ((with_reducible apply DSat.callR (p2)); exact rfl; exact rfl; exact rfl; kernel_rfl; (exact cnvX); exact rfl) | fail)
                · (refine Sat.fin (Sat.end2 rfl rfl rfl rfl True.intro True.intro (.agg _ _ (.cons _ _ _ _ (.refl _ trivial) (.cons _ _ _ _ (.refl _ trivial) (.cons _ _ _ _ (.nils (keysE []) rfl) (.cons _ _ _ _ (.nils (rolesE []) rfl) .nil))))) (.refl _ trivial) (by first | exact .inl rfl | exact .inr rfl) (fun _ h => h)) ?_; rw [hok]; rfl)
                · exfalso; rw [hgd] at h; cases h
            · have hv' : rootB ⟨ng, ne, acc, pa⟩ = false := by simpa using hv
              have p1 := rootBytesR_f ⟨ng, ne, acc, pa⟩ hv'
              have p2 := same_ref [] b
              rw [decide_eq_false (fun e : [] = b => hb2 e.symm)] at p2
              have hok : okRQ b = false := by unfold okRQ; rw [hP, hv']; simp
              repeat' (first
                  | ((with_reducible apply Sat.run (X := X64)); exact rfl; (first | exact True.intro | (exact phi) | skip))
                  | ((with_reducible apply Sat.drawn); kernel_rfl)
                  | ((with_reducible apply DSat.run (X := X64)); exact rfl; (first | exact True.intro | (exact phi) | skip))
                  | ((with_reducible apply DSat.fin); kernel_rfl)
                  | ((with_reducible apply Sat.cond_t); exact rfl)
                  | ((with_reducible apply Sat.cond_f); exact rfl)
                  | ((with_reducible apply Sat.cond_pt); exact rfl; (try dsimp only [V.EV.sub, V.EV.len]); first | assumption | omega)
                  | ((with_reducible apply Sat.cond_pf); exact rfl; (try dsimp only [V.EV.sub, V.EV.len]); first | assumption | omega)
                  | ((with_reducible apply Sat.cond_p); exact rfl; all_goals intro h)
                  | ((with_reducible apply Sat.cond); exact rfl; all_goals intro h)
                  | ((with_reducible apply Sat.gon); exact rfl; exact hgd)
                  | ((with_reducible apply Sat.call (p1)); exact rfl; exact rfl; kernel_rfl; (exact cnvX); exact rfl)
                  | ((with_reducible apply DSat.call (p1)); exact rfl; exact rfl; kernel_rfl; (exact cnvX); exact rfl)
                  | ((with_reducible apply Sat.callR (p2)); exact rfl; exact rfl; exact rfl; kernel_rfl; (exact cnvX); exact rfl)
                  | ((with_reducible apply DSat.callR (p2)); exact rfl; exact rfl; exact rfl; kernel_rfl; (exact cnvX); exact rfl) | fail)
              · (refine Sat.fin (Sat.end2 rfl rfl rfl rfl True.intro True.intro (.agg _ _ (.cons _ _ _ _ (.refl _ trivial) (.cons _ _ _ _ (.refl _ trivial) (.cons _ _ _ _ (.nils (keysE []) rfl) (.cons _ _ _ _ (.nils (rolesE []) rfl) .nil))))) (.refl _ trivial) (by first | exact .inl rfl | exact .inr rfl) (fun _ h => h)) ?_; rw [hok]; rfl)
              · exfalso; rw [hgd] at h; cases h
end Go.Proofs.YtegbdcadlmefgaaDoor
end
section
namespace Go.Proofs.YtegbdcadlmefgaaDoor
open Go.RowKit V
set_option maxRecDepth 100000
set_option maxHeartbeats 1000000
set_option linter.unusedSimpArgs false
theorem tkZ_app {m : List UInt8} {n : Nat} (h : m.length = n) (r : List UInt8) : tkZ (m ++ r) n = m := by
  subst h
  unfold tkZ
  rw [if_pos (by simp)]
  simp
attribute [local irreducible] tkO tkR tkB tkZ numV hashO
theorem rdPartR_enc (p : PartL) (rest : List UInt8) (h : p.name.length < 256 ∧ p.hash.length = 32) : rdPartR ⟨partW p ++ rest, false⟩ = (p, ⟨rest, false⟩) := by
  obtain ⟨nm, hs⟩ := p
  dsimp only at h
  have e1 : numV (num1 (nm.length : Int)) = nm.length := numV_num1 _ h.1
  unfold rdPartR partW
  dsimp only [RdS.num, RdS.tk]
  rw [List.append_assoc, List.append_assoc]
  rw [tkO_app (num1_len _), tkR_app (num1_len _), tkB_app (num1_len _), e1, tkZ_app rfl, tkR_app rfl, tkB_app rfl, hashO_app h.2, tkR_app h.2, tkB_app h.2]
theorem parseR_enc (r : Rel) (hv : validB r = true) (hw : RelW r) : parseR (bytesR r) = r ∧ badR (bytesR r) = false := by
  obtain ⟨n1, n2, n3, n4, n5, n6, n7, n8⟩ := valid_nums hv
  have nl : ∀ p ∈ r.parts, p.name.length < 256 ∧ p.hash.length = 32 := fun p hp => by
    obtain ⟨i, hi, rfl⟩ := mem_getD r.parts part0 p hp
    exact ⟨by have := name_len hv i hi; omega, hw.parts _ hp⟩
  obtain ⟨v, fl, ex, sz, im, ch, tr, go, pa⟩ := r
  obtain ⟨w1, w2, -⟩ := hw
  dsimp only at n1 n2 n3 n4 n5 n6 n7 n8 nl w1 w2
  have hb : bytesR ⟨v, fl, ex, sz, im, ch, tr, go, pa⟩ = num1 86 ++ (num2 v ++ (num2 fl ++ (num4 ex ++ (num4 sz ++ (im ++ (num2 ch ++ (tr ++ (num1 go.length ++ (go.flatMap num2 ++ (num1 pa.length ++ (pa.flatMap partW ++ []))))))))))) := by
    simp only [bytesR, hdr, partsW, List.append_assoc, List.append_nil]
    rfl
  rw [hb]
  have e1 : ((numV (num1 (go.length : Int)) : Nat)) = go.length := numV_num1 _ (by omega)
  have e2 : ((numV (num1 (pa.length : Int)) : Nat)) = pa.length := numV_num1 _ (by omega)
  have g1 : goneP ⟨num1 go.length ++ (go.flatMap num2 ++ (num1 pa.length ++ (pa.flatMap partW ++ []))), false⟩ = (go, ⟨num1 pa.length ++ (pa.flatMap partW ++ []), false⟩) := by
    unfold goneP
    dsimp only [RdS.num, RdS.tk]
    rw [tkO_app (num1_len _), tkR_app (num1_len _), tkB_app (num1_len _), e1]
    exact listP_enc rdInt2 num2 _ rdInt2_enc go _ n8
  have g2 : partsR ⟨num1 pa.length ++ (pa.flatMap partW ++ []), false⟩ = (pa, ⟨[], false⟩) := by
    unfold partsR
    dsimp only [RdS.num, RdS.tk]
    rw [tkO_app (num1_len _), tkR_app (num1_len _), tkB_app (num1_len _), e2]
    exact listP_enc rdPartR partW _ rdPartR_enc pa _ nl
  have h8 : hd8 (num1 86 ++ (num2 v ++ (num2 fl ++ (num4 ex ++ (num4 sz ++ (im ++ (num2 ch ++ (tr ++ (num1 go.length ++ (go.flatMap num2 ++ (num1 pa.length ++ (pa.flatMap partW ++ [])))))))))))) = ⟨num1 go.length ++ (go.flatMap num2 ++ (num1 pa.length ++ (pa.flatMap partW ++ []))), false⟩ := by
    unfold hd8
    simp only [tkR_app (num1_len 86), tkR_app (num2_len v), tkR_app (num2_len fl), tkR_app (num4_len ex), tkR_app (num4_len sz), tkR_app w1, tkR_app (num2_len ch), tkR_app w2, tkB_app (num1_len 86), tkB_app (num2_len v), tkB_app (num2_len fl), tkB_app (num4_len ex), tkB_app (num4_len sz), tkB_app w1, tkB_app (num2_len ch), tkB_app w2]
  constructor
  · unfold parseR
    rw [h8, g1]
    dsimp only
    rw [g2]
    simp only [tkR_app (num1_len 86), tkR_app (num2_len v), tkR_app (num2_len fl), tkR_app (num4_len ex), tkR_app (num4_len sz), tkR_app w1, tkR_app (num2_len ch), tkR_app w2, tkO_app (num2_len v), tkO_app (num2_len fl), tkO_app (num4_len ex), tkO_app (num4_len sz), tkO_app (num2_len ch), hashO_app w1, hashO_app w2]
    rw [numV2 v (by omega) (by omega), numV2 fl (by omega) (by omega), numV4 ex (by omega) (by omega), numV4 sz (by omega) (by omega), numV2 ch (by omega) (by omega)]
  · unfold badR
    rw [h8, g1]
    dsimp only
    rw [g2]
theorem parseR_wf (b : List UInt8) : RelW (parseR b) := ⟨hashO_len _, hashO_len _, listP_all rdPartR (fun p => p.hash.length = 32) (fun _ => hashO_len _) _ _⟩
/-- The reference reads what the program reads. -/
theorem okR_eq (b : List UInt8) : okR b = okP b ∧ (okP b = true → parseR b = parseP b) := by
  cases h : okP b with
  | true =>
    obtain ⟨h1, h2⟩ := okP_inv h
    obtain ⟨h3, h4⟩ := parseR_enc (parseP b) h2 (parseP_wf b)
    rw [← h1] at h3 h4
    refine ⟨?_, fun _ => h3⟩
    unfold okR
    rw [h4, h3]
    unfold okP at h
    exact h
  | false =>
    refine ⟨?_, fun h => by cases h⟩
    cases h5 : okR b with
    | false => rfl
    | true =>
      unfold okR at h5
      simp only [Bool.and_eq_true, decide_eq_true_eq] at h5
      have := (okP_of (parseR b) h5.2.2.1 (parseR_wf b)).1
      rw [h5.2.2.2, h] at this
      cases this
/-! ### Roots -/
structure RootW (r : RootL) : Prop where
  keys : ∀ k ∈ r.keys, k.length = 32
theorem rdSum_enc (x : List UInt8) (rest : List UInt8) (h : x.length = 32) : rdSum ⟨x ++ rest, false⟩ = (x, ⟨rest, false⟩) := by
  unfold rdSum
  dsimp only [RdS.tk]
  rw [hashO_app h, tkR_app h, tkB_app h]
theorem rdInt1_enc (x : Int) (rest : List UInt8) (h : 0 ≤ x ∧ x < 256) : rdInt1 ⟨num1 x ++ rest, false⟩ = (x, ⟨rest, false⟩) := by
  unfold rdInt1
  dsimp only [RdS.num, RdS.tk]
  rw [tkO_app (num1_len x), tkR_app (num1_len x), tkB_app (num1_len x), numV1 x h.1 h.2]
def RoleQ (x : RoleL) : Prop := x.name.length < 256 ∧ x.keys.length < 256 ∧ (∀ k ∈ x.keys, 0 ≤ k ∧ k < 256) ∧ 0 ≤ x.need ∧ x.need < 256
theorem keysP_enc (ks : List Int) (rest : List UInt8) (h1 : ks.length < 256) (h2 : ∀ k ∈ ks, 0 ≤ k ∧ k < 256) : keysP ⟨num1 ks.length ++ (ks.flatMap num1 ++ rest), false⟩ = (ks, ⟨rest, false⟩) := by
  have e1 : numV (num1 (ks.length : Int)) = ks.length := numV_num1 _ h1
  unfold keysP
  dsimp only [RdS.num, RdS.tk]
  rw [tkO_app (num1_len _), tkR_app (num1_len _), tkB_app (num1_len _), e1]
  exact listP_enc rdInt1 num1 _ rdInt1_enc ks _ h2
theorem rdRole_enc (x : RoleL) (rest : List UInt8) (h : RoleQ x) : rdRole ⟨roleW x ++ rest, false⟩ = (x, ⟨rest, false⟩) := by
  obtain ⟨nm, ks, nd⟩ := x
  obtain ⟨h1, h2, h3, h4, h5⟩ := h
  dsimp only at h1 h2 h3 h4 h5
  have e1 : numV (num1 (nm.length : Int)) = nm.length := numV_num1 _ h1
  have e2 := keysP_enc ks (num1 nd ++ rest) h2 h3
  unfold rdRole roleW
  dsimp only [RdS.num, RdS.tk]
  simp only [List.append_assoc]
  rw [tkO_app (num1_len _), tkR_app (num1_len _), tkB_app (num1_len _), e1, tkO_app rfl, tkR_app rfl, tkB_app rfl, e2]
  dsimp only
  rw [tkO_app (num1_len _), tkR_app (num1_len _), tkB_app (num1_len _), numV1 nd h4 h5]
theorem rdRoleR_enc (x : RoleL) (rest : List UInt8) (h : RoleQ x) : rdRoleR ⟨roleW x ++ rest, false⟩ = (x, ⟨rest, false⟩) := by
  obtain ⟨nm, ks, nd⟩ := x
  obtain ⟨h1, h2, h3, h4, h5⟩ := h
  dsimp only at h1 h2 h3 h4 h5
  have e1 : numV (num1 (nm.length : Int)) = nm.length := numV_num1 _ h1
  have e2 := keysP_enc ks (num1 nd ++ rest) h2 h3
  unfold rdRoleR roleW
  dsimp only [RdS.num, RdS.tk]
  simp only [List.append_assoc]
  rw [tkO_app (num1_len _), tkR_app (num1_len _), tkB_app (num1_len _), e1, tkZ_app rfl, tkR_app rfl, tkB_app rfl, e2]
  dsimp only
  rw [tkO_app (num1_len _), tkR_app (num1_len _), tkB_app (num1_len _), numV1 nd h4 h5]
theorem root_nums {r : RootL} (hv : rootB r = true) : (1 ≤ r.gen ∧ r.gen ≤ 1000000) ∧ (0 ≤ r.expiry ∧ r.expiry ≤ 1000000000) ∧ (1 ≤ r.keys.length ∧ r.keys.length ≤ 8) ∧ (1 ≤ r.roles.length ∧ r.roles.length ≤ 8) ∧ ∀ x ∈ r.roles, RoleQ x := by
  have hf := root_facts hv
  unfold rootB at hv
  simp only [Bool.and_eq_true] at hv
  obtain ⟨h1, _, h3⟩ := hv
  unfold root1 inB at h1
  simp only [Bool.and_eq_true, decide_eq_true_eq] at h1
  have h4 := of_decide_eq_true h3
  refine ⟨by omega, by omega, by omega, by omega, fun x hx => ?_⟩
  obtain ⟨i, hi, rfl⟩ := mem_getD r.roles role0 x hx
  have h5 := hf.name i hi
  have h6 := hf.rk i hi
  obtain ⟨-, -, -, q4, q5⟩ := h4 i hi
  unfold inB at q5
  simp only [Bool.and_eq_true, decide_eq_true_eq] at q5
  refine ⟨by omega, by omega, fun k hk => ?_, by omega, by omega⟩
  obtain ⟨j, hj, rfl⟩ := mem_getD _ 0 k hk
  have := (of_decide_eq_true q4 j hj).1
  unfold inB at this
  simp only [Bool.and_eq_true, decide_eq_true_eq] at this
  omega
/-- Where the reading of a root ends. -/
def endQ (b : List UInt8) : RdS := (rolesP (sumsP (hd3 b)).2).2
theorem parseQ_enc (r : RootL) (hv : rootB r = true) (hw : RootW r) (more : List UInt8) : parseQ (bytesQ r ++ more) = r ∧ endQ (bytesQ r ++ more) = ⟨more, false⟩ ∧ parseRQ (bytesQ r ++ more) = r ∧ badRQ (bytesQ r ++ more) = false := by
  obtain ⟨n1, n2, n3, n4, n5⟩ := root_nums hv
  obtain ⟨w1⟩ := hw
  obtain ⟨g, ex, ks, rs⟩ := r
  dsimp only at n1 n2 n3 n4 n5 w1
  have hfl : ks.flatten = ks.flatMap id := by simp
  have hb : bytesQ ⟨g, ex, ks, rs⟩ ++ more = num1 82 ++ (num4 g ++ (num4 ex ++ (num1 ks.length ++ (ks.flatMap id ++ (num1 rs.length ++ (rs.flatMap roleW ++ more)))))) := by
    simp only [bytesQ, hdrR, List.append_assoc, hfl]
  rw [hb]
  have e1 : ((numV (num1 (ks.length : Int)) : Nat)) = ks.length := numV_num1 _ (by omega)
  have e2 : ((numV (num1 (rs.length : Int)) : Nat)) = rs.length := numV_num1 _ (by omega)
  have g1 : sumsP ⟨num1 ks.length ++ (ks.flatMap id ++ (num1 rs.length ++ (rs.flatMap roleW ++ more))), false⟩ = (ks, ⟨num1 rs.length ++ (rs.flatMap roleW ++ more), false⟩) := by
    unfold sumsP
    dsimp only [RdS.num, RdS.tk]
    rw [tkO_app (num1_len _), tkR_app (num1_len _), tkB_app (num1_len _), e1]
    exact listP_enc rdSum id (fun k => k.length = 32) rdSum_enc ks _ w1
  have g2 : rolesP ⟨num1 rs.length ++ (rs.flatMap roleW ++ more), false⟩ = (rs, ⟨more, false⟩) := by
    unfold rolesP
    dsimp only [RdS.num, RdS.tk]
    rw [tkO_app (num1_len _), tkR_app (num1_len _), tkB_app (num1_len _), e2]
    exact listP_enc rdRole roleW RoleQ rdRole_enc rs _ n5
  have g3 : rolesR ⟨num1 rs.length ++ (rs.flatMap roleW ++ more), false⟩ = (rs, ⟨more, false⟩) := by
    unfold rolesR
    dsimp only [RdS.num, RdS.tk]
    rw [tkO_app (num1_len _), tkR_app (num1_len _), tkB_app (num1_len _), e2]
    exact listP_enc rdRoleR roleW RoleQ rdRoleR_enc rs _ n5
  have h8 : hd3 (num1 82 ++ (num4 g ++ (num4 ex ++ (num1 ks.length ++ (ks.flatMap id ++ (num1 rs.length ++ (rs.flatMap roleW ++ more))))))) = ⟨num1 ks.length ++ (ks.flatMap id ++ (num1 rs.length ++ (rs.flatMap roleW ++ more))), false⟩ := by
    unfold hd3
    simp only [tkR_app (num1_len 82), tkR_app (num4_len g), tkR_app (num4_len ex), tkB_app (num1_len 82), tkB_app (num4_len g), tkB_app (num4_len ex)]
  refine ⟨?_, ?_, ?_, ?_⟩
  · unfold parseQ
    rw [h8, g1]
    dsimp only
    rw [g2]
    simp only [tkR_app (num1_len 82), tkR_app (num4_len g), tkO_app (num4_len g), tkO_app (num4_len ex)]
    rw [numV4 g (by omega) (by omega), numV4 ex (by omega) (by omega)]
  · unfold endQ
    rw [h8, g1]
    dsimp only
    rw [g2]
  · unfold parseRQ
    rw [h8, g1]
    dsimp only
    rw [g3]
    simp only [tkR_app (num1_len 82), tkR_app (num4_len g), tkO_app (num4_len g), tkO_app (num4_len ex)]
    rw [numV4 g (by omega) (by omega), numV4 ex (by omega) (by omega)]
  · unfold badRQ
    rw [h8, g1]
    dsimp only
    rw [g3]
theorem parseQ_wf (b : List UInt8) : RootW (parseQ b) := ⟨listP_all rdSum (fun k => k.length = 32) (fun _ => hashO_len _) _ _⟩
theorem parseRQ_wf (b : List UInt8) : RootW (parseRQ b) := ⟨listP_all rdSum (fun k => k.length = 32) (fun _ => hashO_len _) _ _⟩
theorem bytesQ_ne (r : RootL) : bytesQ r ≠ [] := by
  unfold bytesQ hdrR num1
  simp
theorem okQ_of (r : RootL) (hv : rootB r = true) (hw : RootW r) : okQ (bytesQ r) = true ∧ parseQ (bytesQ r) = r := by
  have h := (parseQ_enc r hv hw []).1
  rw [List.append_nil] at h
  refine ⟨?_, h⟩
  unfold okQ
  rw [h, hv, decide_eq_true rfl, decide_eq_false (bytesQ_ne r)]
  rfl
theorem okQ_inv {b : List UInt8} (h : okQ b = true) : b = bytesQ (parseQ b) ∧ rootB (parseQ b) = true := by
  unfold okQ at h
  simp only [Bool.and_eq_true, decide_eq_true_eq] at h
  exact ⟨h.2.2.symm, h.2.1⟩
theorem bytesQ_inj {r q : RootL} (hv : rootB r = true) (hw : RootW r) (hv' : rootB q = true) (hw' : RootW q) (h : bytesQ r = bytesQ q) : r = q := by
  have h1 := (okQ_of r hv hw).2
  have h2 := (okQ_of q hv' hw').2
  rw [h, h2] at h1
  exact h1.symm
theorem okRQ_eq (b : List UInt8) : okRQ b = okQ b ∧ (okQ b = true → parseRQ b = parseQ b) := by
  cases h : okQ b with
  | true =>
    obtain ⟨h1, h2⟩ := okQ_inv h
    obtain ⟨-, -, h3, h4⟩ := parseQ_enc (parseQ b) h2 (parseQ_wf b) []
    rw [List.append_nil, ← h1] at h3 h4
    refine ⟨?_, fun _ => h3⟩
    unfold okRQ
    rw [h4, h3]
    unfold okQ at h
    exact h
  | false =>
    refine ⟨?_, fun h => by cases h⟩
    cases h5 : okRQ b with
    | false => rfl
    | true =>
      unfold okRQ at h5
      simp only [Bool.and_eq_true, decide_eq_true_eq] at h5
      have := (okQ_of (parseRQ b) h5.2.2.1 (parseRQ_wf b)).1
      rw [h5.2.2.2, h] at this
      cases this
/-- What is read, by both. -/
theorem parseR_spec (b : List UInt8) : Fun Tryd.prog [] 27 [.ro (.u8 b)] (.tup [(bif okP b then parseP b else zeroRel).v, .int .i64 (bif okP b then 0 else 260)]) := by
  have h := parseR_walk b
  obtain ⟨h1, h2⟩ := okR_eq b
  rw [h1] at h
  cases h3 : okP b with
  | true => rw [h3, h2 h3] at h; exact h
  | false => rw [h3] at h; exact h
theorem parseRootR_spec (b : List UInt8) : Fun Tryd.prog [] 28 [.ro (.u8 b)] (.tup [(bif okQ b then parseQ b else zeroRoot).v, .int .i64 (bif okQ b then 0 else 260)]) := by
  have h := parseRootR_walk b
  obtain ⟨h1, h2⟩ := okRQ_eq b
  rw [h1] at h
  cases h3 : okQ b with
  | true => rw [h3, h2 h3] at h; exact h
  | false => rw [h3] at h; exact h
/-- No bytes are those of both. -/
theorem bytes_apart (r : Rel) (q : RootL) (x y : List UInt8) : bytesR r ++ x ≠ bytesQ q ++ y := by
  intro h
  have h1 : (bytesR r ++ x).head? = some 86 := rfl
  have h2 : (bytesQ q ++ y).head? = some 82 := rfl
  rw [h, h2] at h1
  cases h1
end Go.Proofs.YtegbdcadlmefgaaDoor
end
section
namespace Go.Proofs.YtegbdcadlmefgaaDoor.V
open Go.RowKit
section
variable {C : Ctx} {Q0 : Exit → Act → World → Prop} {F F' : Tr} {M M' : Mem} {ids : List Nat} {k : List Kont}
theorem Sat.one {X : IntKind → Bool} {full rest : List Oper} {o : Oper} {φ : List Prop} {ids' : List Nat} (h : step1 X C.P C.Γ C.N full o F M ids = some ⟨F', M', ids', φ⟩) (hφ : AllP φ) (hn : Sat C Q0 (.reg full rest F' M' ids' k)) : Sat C Q0 (.reg full (o :: rest) F M ids k) := by
  intro U E a w hsup hst
  exact step1_ok hst hsup h hφ.all fun U E a w h1 h2 => hn U E a w h1 h2
/-- The run, no further than n steps of code. -/
theorem Sat.runN {X : IntKind → Bool} {c c' : Cfg} {φ : List Prop} (n : Nat) (h : runC X C.P C.Γ C.N n c [] = some (c', φ)) (hφ : AllP φ) (hn : Sat C Q0 c') : Sat C Q0 c := (runC_ok n h hφ.all hn).2
/-- A region is entered. -/
theorem Sat.enter {id : Nat} {ops : List Oper} (h : Sat C Q0 (.reg ops ops F M ids k)) : Sat C Q0 (.code (.region id ⟨ops⟩ false) F M ids k) :=
  fun U E a w hsup hst => wp_region_lit (h U E a w hsup hst)
end
end Go.Proofs.YtegbdcadlmefgaaDoor.V
end
section
namespace Go.Proofs.YtegbdcadlmefgaaDoor
open Go.RowKit V
--PURE: (intro _ _; simp [pureL, pureS, pureE]; done)
set_option maxRecDepth 100000
set_option maxHeartbeats 4000000
set_option linter.unusedSimpArgs false
attribute [local irreducible] V.Sat V.DSat tkO tkR tkB tkZ numV hashO
/-- The hash that a number tells. -/
def sumB (n : UInt8) : List UInt8 := (List.range 32).map fun i => n + UInt8.ofNat i
theorem sumB_len (n : UInt8) : (sumB n).length = 32 := by simp [sumB]
theorem sumB_at (n : UInt8) (i : Nat) (h : i < 32) : (sumB n).getD i 0 = n + UInt8.ofNat i := by
  simp [sumB, List.getD_eq_getElem?_getD, h]
theorem sum_val (n : UInt8) (x : Nat) (hx : x < 32) : UInt8.ofNat (IntKind.u8.wrap ((n.toNat : Int) + IntKind.u8.wrap (x : Int))).toNat = n + UInt8.ofNat x := by
  rw [wrap_u8, wrap_u8]
  apply UInt8.toNat.inj
  rw [UInt8.toNat_add, UInt8.toNat_ofNat_of_lt' (by show _ < 256; omega), UInt8.toNat_ofNat_of_lt' (by show x < 256; omega)]
  omega
theorem sumB_spec (n : UInt8) : Fun Tryd.prog [] 31 [.int .u8 (n.toNat : Int)] (.arr 32 (.u8 (sumB n))) := by
  have hl := sumB_len n
  have hv : ∀ x, x < 32 → UInt8.ofNat (((sumB n).getD x 0).toNat : Int).toNat = UInt8.ofNat (IntKind.u8.wrap ((n.toNat : Int) + IntKind.u8.wrap (x : Int))).toNat := fun x hx => by
    rw [sumB_at n x hx, sum_val n x hx, Int.toNat_natCast, UInt8.ofNat_toNat]
  refine Fun.mkF 6 Tryd.func31 rfl Tryd.ntmps31 rfl rfl fun hf T w0 => ?_
  repeat' (first
      | ((with_reducible apply Sat.run (X := X64)); exact rfl; (first | exact True.intro | (exact phi) | skip))
      | ((with_reducible apply Sat.drawn); kernel_rfl)
      | ((with_reducible apply DSat.run (X := X64)); exact rfl; (first | exact True.intro | (exact phi) | skip))
      | ((with_reducible apply DSat.fin); kernel_rfl)
      | ((with_reducible apply Sat.cond_t); exact rfl)
      | ((with_reducible apply Sat.cond_f); exact rfl)
      | ((with_reducible apply Sat.cond_pt); exact rfl; (try dsimp only [V.EV.sub, V.EV.len]); first | assumption | omega)
      | ((with_reducible apply Sat.cond_pf); exact rfl; (try dsimp only [V.EV.sub, V.EV.len]); first | assumption | omega)
      | ((with_reducible apply Sat.cond_p); exact rfl; all_goals intro h)
      | ((with_reducible apply Sat.cond); exact rfl; all_goals intro h) | fail)
  generalize sumB n = m at hl hv ⊢
  apply Sat.loop (α := Nat) (fun x => x ≤ 32) (fun x => 32 - x) 0 (fun x => [(4, .int .i64 (x : Int))]) (fun x => [(1, .cells 23 [.arr 32 (.u8 (m.take x ++ List.replicate (32 - x) 0))])]) [] [] 0
  · intro x; exact rfl
  · intro x; exact rfl
  · exact rfl
  · exact rfl
  · (repeat' (first | exact AllP.nil | with_reducible refine AllP.cons ?_ ?_)) <;> first | exact rfl | exact trivial
  · exact Nat.zero_le _
  · intro x hx
    repeat' (first
        | ((with_reducible apply Sat.run (X := X64)); exact rfl; (first | exact True.intro | (exact phi) | skip))
        | ((with_reducible apply Sat.drawn); kernel_rfl)
        | ((with_reducible apply DSat.run (X := X64)); exact rfl; (first | exact True.intro | (exact phi) | skip))
        | ((with_reducible apply DSat.fin); kernel_rfl)
        | ((with_reducible apply Sat.cond_t); exact rfl)
        | ((with_reducible apply Sat.cond_f); exact rfl)
        | ((with_reducible apply Sat.cond_pt); exact rfl; (try dsimp only [V.EV.sub, V.EV.len]); first | assumption | omega)
        | ((with_reducible apply Sat.cond_pf); exact rfl; (try dsimp only [V.EV.sub, V.EV.len]); first | assumption | omega)
        | ((with_reducible apply Sat.cond_p); exact rfl; all_goals intro h)
        | ((with_reducible apply Sat.cond); exact rfl; all_goals intro h) | fail)
    · have hx2 : x < 32 := by omega
      have e := set_step m x hl hx2
      rw [hv x hx2] at e
      refine Sat.back (x + 1) [] rfl ?_ (by omega) (by omega)
      (repeat' (first | exact AllP.nil | with_reducible refine AllP.cons ?_ ?_)) <;> first | with_reducible exact rfl | exact Int.natCast_add_one _ | exact congrArg EV.u8 e | exact rfl | exact trivial
    · have hx2 : x = 32 := by omega
      subst hx2
      (refine Sat.fin (Sat.end1 rfl rfl rfl True.intro (.refl _ purX) (by first | exact .inl rfl | exact .inr rfl) (fun _ h => h)) ?_; (refine congrArg (fun x => SV.arr 32 (EV.u8 x)) ?_; rw [List.take_of_length_le (by omega)]; simp))
def smallR : Rel := ⟨258, 1, 3, 65536, List.replicate 32 0, 1, List.replicate 32 0, [], []⟩
theorem small_law : Fun Tryd.prog [] 29 [] smallR.v := by
  refine Fun.mk 6 Tryd.func29 rfl Tryd.ntmps29 rfl rfl fun T w0 => ?_
  repeat' (first
      | ((with_reducible apply Sat.run (X := X64)); exact rfl; (first | exact True.intro | (exact phi) | skip))
      | ((with_reducible apply Sat.drawn); kernel_rfl)
      | ((with_reducible apply DSat.run (X := X64)); exact rfl; (first | exact True.intro | (exact phi) | skip))
      | ((with_reducible apply DSat.fin); kernel_rfl)
      | ((with_reducible apply Sat.cond_t); exact rfl)
      | ((with_reducible apply Sat.cond_f); exact rfl)
      | ((with_reducible apply Sat.cond_pt); exact rfl; (try dsimp only [V.EV.sub, V.EV.len]); first | assumption | omega)
      | ((with_reducible apply Sat.cond_pf); exact rfl; (try dsimp only [V.EV.sub, V.EV.len]); first | assumption | omega)
      | ((with_reducible apply Sat.cond_p); exact rfl; all_goals intro h)
      | ((with_reducible apply Sat.cond); exact rfl; all_goals intro h) | fail)
  (refine Sat.fin (Sat.end1 rfl rfl rfl True.intro (.agg _ _ (.cons _ _ _ _ (.refl _ trivial) (.cons _ _ _ _ (.refl _ trivial) (.cons _ _ _ _ (.refl _ trivial) (.cons _ _ _ _ (.refl _ trivial) (.cons _ _ _ _ (.refl _ trivial) (.cons _ _ _ _ (.refl _ trivial) (.cons _ _ _ _ (.refl _ trivial) (.cons _ _ _ _ (.nils (.ints .i64 []) rfl) (.cons _ _ _ _ (.nils (partsE []) rfl) .nil)))))))))) (by first | exact .inl rfl | exact .inr rfl) (fun _ h => h)) ?_; rfl)
def relEq (a b : Rel) : Bool := decide (a.version = b.version ∧ a.floor = b.floor ∧ a.expiry = b.expiry ∧ a.size = b.size ∧ a.image = b.image ∧ a.chunks = b.chunks ∧ a.tree = b.tree) && (decide (a.gone = b.gone) && decide (a.parts.length = b.parts.length ∧ ∀ i, i < a.parts.length → (a.parts.getD i part0).name = (b.parts.getD i part0).name ∧ (a.parts.getD i part0).hash = (b.parts.getD i part0).hash))
theorem same_rel (a b : Rel) : Fun Tryd.prog [] 25 [a.v, b.v] (.bool (relEq a b)) := by
  obtain ⟨v, fl, ex, sz, im, ch, tr, go, pa⟩ := a
  obtain ⟨v', fl', ex', sz', im', ch', tr', go', pa'⟩ := b
  have hi := ints_ref go go'
  show Fun Tryd.prog [] 25 [.agg [.int .i64 v, .int .i64 fl, .int .i64 ex, .int .i64 sz, .arr 32 (.u8 im), .int .i64 ch, .arr 32 (.u8 tr), .ro (.ints .i64 go), .ro (partsE pa)], .agg [.int .i64 v', .int .i64 fl', .int .i64 ex', .int .i64 sz', .arr 32 (.u8 im'), .int .i64 ch', .arr 32 (.u8 tr'), .ro (.ints .i64 go'), .ro (partsE pa')]] _
  refine Fun.mkF 7 Tryd.func25 rfl Tryd.ntmps25 rfl rfl fun hf T w0 => ?_
  repeat' (first
      | ((with_reducible apply Sat.run (X := X64)); exact rfl; (first | exact True.intro | (exact phi) | skip))
      | ((with_reducible apply Sat.drawn); kernel_rfl)
      | ((with_reducible apply DSat.run (X := X64)); exact rfl; (first | exact True.intro | (exact phi) | skip))
      | ((with_reducible apply DSat.fin); kernel_rfl)
      | ((with_reducible apply Sat.cond_t); exact rfl)
      | ((with_reducible apply Sat.cond_f); exact rfl)
      | ((with_reducible apply Sat.cond_pt); exact rfl; (try dsimp only [V.EV.sub, V.EV.len]); first | assumption | omega)
      | ((with_reducible apply Sat.cond_pf); exact rfl; (try dsimp only [V.EV.sub, V.EV.len]); first | assumption | omega)
      | ((with_reducible apply Sat.cond_p); exact rfl; all_goals (intro h; (try simp only [V.EV.sub, V.EV.len] at h)))
      | ((with_reducible apply Sat.cond); exact rfl; all_goals (intro h; (try simp only [V.EV.sub, V.EV.len, Bool.cond_true_left, Bool.cond_false_right, Bool.or_eq_true, Bool.and_eq_true, Bool.or_eq_false_iff, Bool.and_eq_false_iff, Bool.not_eq_true', Bool.not_eq_false', decide_eq_true_eq, decide_eq_false_iff_not, ne_eq] at h)))
      | ((with_reducible apply Sat.callG1 (hi)); exact rfl; exact rfl; exact rfl; exact rfl; kernel_rfl; (intro hG; (exact cnvX)); exact rfl)
      | ((with_reducible apply DSat.callG1 (hi)); exact rfl; exact rfl; exact rfl; exact rfl; kernel_rfl; (intro hG; (exact cnvX)); exact rfl) | fail)
  · have q : relEq ⟨v, fl, ex, sz, im, ch, tr, go, pa⟩ ⟨v', fl', ex', sz', im', ch', tr', go', pa'⟩ = false := by
      cases hq : relEq ⟨v, fl, ex, sz, im, ch, tr, go, pa⟩ ⟨v', fl', ex', sz', im', ch', tr', go', pa'⟩ with
      | false => rfl
      | true =>
        exfalso
        unfold relEq at hq
        simp only [Bool.and_eq_true, decide_eq_true_eq] at hq
        obtain ⟨⟨q1, q2, q3, q4, q5, q6, q7⟩, q8, q9, -⟩ := hq
        rcases h with (((((((h | h) | h) | h) | h) | h) | h) | h) | h
        all_goals first | exact h q1 | exact h q2 | exact h q3 | exact h q4 | exact h q5 | exact h q6 | exact h q7 | exact h q8 | (have := of_decide_eq_true h; omega)
    (refine Sat.fin (Sat.end1 rfl rfl rfl True.intro (.refl _ purX) (by first | exact .inl rfl | exact .inr rfl) (fun _ h => h)) ?_; (rw [q]))
  obtain ⟨⟨⟨⟨⟨⟨⟨⟨p1, p2⟩, p3⟩, p4⟩, p5⟩, p6⟩, p7⟩, p8⟩, p9⟩ := h
  replace p1 := Classical.not_not.1 p1
  replace p2 := Classical.not_not.1 p2
  replace p3 := Classical.not_not.1 p3
  replace p4 := Classical.not_not.1 p4
  replace p6 := Classical.not_not.1 p6
  have p10 : pa.length = pa'.length := by
    have := of_decide_eq_false p9
    omega
  clear p9 hi
  have hla : pa.length ≤ 9223372036854775807 := hf.1.2.2.2.2.2.2.2.2.1.1
  apply Sat.loop (α := Nat) (fun x => x ≤ pa.length ∧ ∀ i, i < x → (pa.getD i part0).name = (pa'.getD i part0).name ∧ (pa.getD i part0).hash = (pa'.getD i part0).hash) (fun x => pa.length - x) 0 (fun x => [(5, .int .i64 (x : Int))]) (fun _ => []) [] [] 0
  · intro x; exact rfl
  · intro x; exact rfl
  · exact rfl
  · exact rfl
  · (repeat' (first | exact AllP.nil | with_reducible refine AllP.cons ?_ ?_)) <;> first | with_reducible exact rfl | exact rfl | exact trivial | exact Int.natCast_add_one _ | (intro _ _; simp [pureL, pureS, pureE]; done) | exact ⟨rfl, rfl, rfl, rfl⟩
  · exact ⟨Nat.zero_le _, fun i hi => by omega⟩
  · rintro x ⟨x1, x2⟩
    repeat' (first
        | ((with_reducible apply Sat.run (X := X64)); exact rfl; (first | exact True.intro | (exact phi) | skip))
        | ((with_reducible apply Sat.drawn); kernel_rfl)
        | ((with_reducible apply DSat.run (X := X64)); exact rfl; (first | exact True.intro | (exact phi) | skip))
        | ((with_reducible apply DSat.fin); kernel_rfl)
        | ((with_reducible apply Sat.cond_t); exact rfl)
        | ((with_reducible apply Sat.cond_f); exact rfl)
        | ((with_reducible apply Sat.cond_pt); exact rfl; (try dsimp only [V.EV.sub, V.EV.len]); first | assumption | omega)
        | ((with_reducible apply Sat.cond_pf); exact rfl; (try dsimp only [V.EV.sub, V.EV.len]); first | assumption | omega)
        | ((with_reducible apply Sat.cond_p); exact rfl; all_goals (intro h; (try simp only [V.EV.sub, V.EV.len] at h)))
        | ((with_reducible apply Sat.cond); exact rfl; all_goals (intro h; (try simp only [V.EV.sub, V.EV.len, Bool.cond_true_left, Bool.cond_false_right, Bool.or_eq_true, Bool.and_eq_true, Bool.or_eq_false_iff, Bool.and_eq_false_iff, Bool.not_eq_true', Bool.not_eq_false', decide_eq_true_eq, decide_eq_false_iff_not, ne_eq] at h))) | fail)
    · have hx : x < pa.length := by omega
      have q : relEq ⟨v, fl, ex, sz, im, ch, tr, go, pa⟩ ⟨v', fl', ex', sz', im', ch', tr', go', pa'⟩ = false := by
        cases hq : relEq ⟨v, fl, ex, sz, im, ch, tr, go, pa⟩ ⟨v', fl', ex', sz', im', ch', tr', go', pa'⟩ with
        | false => rfl
        | true =>
          exfalso
          unfold relEq at hq
          simp only [Bool.and_eq_true, decide_eq_true_eq] at hq
          obtain ⟨-, -, -, q9⟩ := hq
          obtain ⟨r1, r2⟩ := q9 x hx
          rcases h with h | h | h
          · exact h r1
          · exact h r2
          · cases h
      (refine Sat.fin (Sat.end1 rfl rfl rfl True.intro (.refl _ purX) (by first | exact .inl rfl | exact .inr rfl) (fun _ h => h)) ?_; (rw [q]))
    · refine Sat.back (x + 1) [] rfl ?_ ?_ ?_
      · (repeat' (first | exact AllP.nil | with_reducible refine AllP.cons ?_ ?_)) <;> first | with_reducible exact rfl | exact Int.natCast_add_one _ | exact rfl | exact trivial | (intro _ _; simp [pureL, pureS, pureE]; done) | exact ⟨rfl, rfl, rfl, rfl⟩
      · refine ⟨by omega, fun i hi => ?_⟩
        rcases Nat.lt_succ_iff_lt_or_eq.1 hi with h1 | rfl
        · exact x2 i h1
        · exact ⟨h.1, h.2.1⟩
      · omega
    · have hx : x = pa.length := by omega
      subst hx
      (refine Sat.fin (Sat.end1 rfl rfl rfl True.intro (.refl _ purX) (by first | exact .inl rfl | exact .inr rfl) (fun _ h => h)) ?_; (refine congrArg SV.bool (Eq.trans (show relEq ⟨v, fl, ex, sz, im, ch, tr, go, pa⟩ ⟨v', fl', ex', sz', im', ch', tr', go', pa'⟩ = true by unfold relEq; rw [p1, p2, p3, p4, p5, p6, p7, p8]; simp only [p10, true_and, decide_true, Bool.true_and, and_true, and_self]; exact decide_eq_true (fun i hi => x2 i (by omega))) rfl)))
theorem parts_ext {pa pb : List PartL} (h : pa.length = pb.length) (h2 : ∀ i, i < pa.length → (pa.getD i part0).name = (pb.getD i part0).name ∧ (pa.getD i part0).hash = (pb.getD i part0).hash) : pa = pb := by
  refine List.ext_getElem h fun i h3 h4 => ?_
  have := h2 i h3
  simp only [List.getD_eq_getElem?_getD, List.getElem?_eq_getElem h3, List.getElem?_eq_getElem h4, Option.getD_some] at this
  cases hp : pa[i] with
  | mk n1 h1 =>
    cases hq : pb[i] with
    | mk n2 h2' =>
      rw [hp, hq] at this
      obtain ⟨r1, r2⟩ := this
      dsimp only at r1 r2
      rw [r1, r2]
theorem relEq_iff (a b : Rel) : relEq a b = true ↔ a = b := by
  constructor
  · intro h
    unfold relEq at h
    simp only [Bool.and_eq_true, decide_eq_true_eq] at h
    obtain ⟨⟨q1, q2, q3, q4, q5, q6, q7⟩, q8, q9, q10⟩ := h
    obtain ⟨v, fl, ex, sz, im, ch, tr, go, pa⟩ := a
    obtain ⟨v', fl', ex', sz', im', ch', tr', go', pa'⟩ := b
    dsimp only at q1 q2 q3 q4 q5 q6 q7 q8 q9 q10
    rw [q1, q2, q3, q4, q5, q6, q7, q8, parts_ext q9 q10]
  · rintro rfl
    unfold relEq
    simp
def rootEq (a b : RootL) : Bool := decide (a.gen = b.gen ∧ a.expiry = b.expiry ∧ a.keys.length = b.keys.length ∧ a.roles.length = b.roles.length) && (decide (∀ i, i < a.keys.length → a.keys.getD i [] = b.keys.getD i []) && decide (∀ i, i < a.roles.length → (a.roles.getD i role0).name = (b.roles.getD i role0).name ∧ (a.roles.getD i role0).need = (b.roles.getD i role0).need ∧ (a.roles.getD i role0).keys = (b.roles.getD i role0).keys))
theorem same_root (a b : RootL) : Fun Tryd.prog [] 26 [a.v, b.v] (.bool (rootEq a b)) := by
  obtain ⟨g, ex, ks, rs⟩ := a
  obtain ⟨g', ex', ks', rs'⟩ := b
  show Fun Tryd.prog [] 26 [.agg [.int .i64 g, .int .i64 ex, .ro (keysE ks), .ro (rolesE rs)], .agg [.int .i64 g', .int .i64 ex', .ro (keysE ks'), .ro (rolesE rs')]] _
  refine Fun.mkF 7 Tryd.func26 rfl Tryd.ntmps26 rfl rfl fun hf T w0 => ?_
  repeat' (first
      | ((with_reducible apply Sat.run (X := X64)); exact rfl; (first | exact True.intro | (exact phi) | skip))
      | ((with_reducible apply Sat.drawn); kernel_rfl)
      | ((with_reducible apply DSat.run (X := X64)); exact rfl; (first | exact True.intro | (exact phi) | skip))
      | ((with_reducible apply DSat.fin); kernel_rfl)
      | ((with_reducible apply Sat.cond_t); exact rfl)
      | ((with_reducible apply Sat.cond_f); exact rfl)
      | ((with_reducible apply Sat.cond_pt); exact rfl; (try dsimp only [V.EV.sub, V.EV.len]); first | assumption | omega)
      | ((with_reducible apply Sat.cond_pf); exact rfl; (try dsimp only [V.EV.sub, V.EV.len]); first | assumption | omega)
      | ((with_reducible apply Sat.cond_p); exact rfl; all_goals (intro h; (try simp only [V.EV.sub, V.EV.len] at h)))
      | ((with_reducible apply Sat.cond); exact rfl; all_goals (intro h; (try simp only [V.EV.sub, V.EV.len, Bool.cond_true_left, Bool.cond_false_right, Bool.or_eq_true, Bool.and_eq_true, Bool.or_eq_false_iff, Bool.and_eq_false_iff, Bool.not_eq_true', Bool.not_eq_false', decide_eq_true_eq, decide_eq_false_iff_not, ne_eq] at h))) | fail)
  · have q : rootEq ⟨g, ex, ks, rs⟩ ⟨g', ex', ks', rs'⟩ = false := by
      cases hq : rootEq ⟨g, ex, ks, rs⟩ ⟨g', ex', ks', rs'⟩ with
      | false => rfl
      | true =>
        exfalso
        unfold rootEq at hq
        simp only [Bool.and_eq_true, decide_eq_true_eq] at hq
        obtain ⟨⟨q1, q2, q3, q4⟩, -⟩ := hq
        rcases h with ((h | h) | h) | h
        all_goals first | exact h q1 | exact h q2 | (have := of_decide_eq_true h; omega) | omega
    (refine Sat.fin (Sat.end1 rfl rfl rfl True.intro (.refl _ purX) (by first | exact .inl rfl | exact .inr rfl) (fun _ h => h)) ?_; (rw [q]))
  obtain ⟨⟨⟨p1, p2⟩, p3⟩, p4⟩ := h
  replace p1 := Classical.not_not.1 p1
  replace p2 := Classical.not_not.1 p2
  have p5 : ks.length = ks'.length := by
    have := of_decide_eq_false p3
    omega
  have p6 : rs.length = rs'.length := by
    have := of_decide_eq_false p4
    omega
  clear p3 p4
  have hk : ks.length ≤ 9223372036854775807 := hf.1.2.2.1.1
  have hr : rs.length ≤ 9223372036854775807 := hf.1.2.2.2.1.1
  apply Sat.loop (α := Nat) (fun x => x ≤ ks.length ∧ ∀ i, i < x → ks.getD i [] = ks'.getD i []) (fun x => ks.length - x) 0 (fun x => [(5, .int .i64 (x : Int))]) (fun _ => []) [] [] 0
  · intro x; exact rfl
  · intro x; exact rfl
  · exact rfl
  · exact rfl
  · (repeat' (first | exact AllP.nil | with_reducible refine AllP.cons ?_ ?_)) <;> first | with_reducible exact rfl | exact Int.natCast_add_one _ | exact rfl | exact trivial | (intro _ _; simp [pureL, pureS, pureE]; done) | exact ⟨rfl, rfl, rfl, rfl⟩
  · exact ⟨Nat.zero_le _, fun i hi => by omega⟩
  · rintro x ⟨x1, x2⟩
    repeat' (first
        | ((with_reducible apply Sat.run (X := X64)); exact rfl; (first | exact True.intro | (exact phi) | skip))
        | ((with_reducible apply Sat.drawn); kernel_rfl)
        | ((with_reducible apply DSat.run (X := X64)); exact rfl; (first | exact True.intro | (exact phi) | skip))
        | ((with_reducible apply DSat.fin); kernel_rfl)
        | ((with_reducible apply Sat.cond_t); exact rfl)
        | ((with_reducible apply Sat.cond_f); exact rfl)
        | ((with_reducible apply Sat.cond_pt); exact rfl; (try dsimp only [V.EV.sub, V.EV.len]); first | assumption | omega)
        | ((with_reducible apply Sat.cond_pf); exact rfl; (try dsimp only [V.EV.sub, V.EV.len]); first | assumption | omega)
        | ((with_reducible apply Sat.cond_p); exact rfl; all_goals (intro h; (try simp only [V.EV.sub, V.EV.len] at h)))
        | ((with_reducible apply Sat.cond); exact rfl; all_goals (intro h; (try simp only [V.EV.sub, V.EV.len, Bool.cond_true_left, Bool.cond_false_right, Bool.or_eq_true, Bool.and_eq_true, Bool.or_eq_false_iff, Bool.and_eq_false_iff, Bool.not_eq_true', Bool.not_eq_false', decide_eq_true_eq, decide_eq_false_iff_not, ne_eq] at h))) | fail)
    · have hx : x < ks.length := by omega
      have q : rootEq ⟨g, ex, ks, rs⟩ ⟨g', ex', ks', rs'⟩ = false := by
        cases hq : rootEq ⟨g, ex, ks, rs⟩ ⟨g', ex', ks', rs'⟩ with
        | false => rfl
        | true =>
          exfalso
          unfold rootEq at hq
          simp only [Bool.and_eq_true, decide_eq_true_eq] at hq
          exact h (hq.2.1 x hx)
      (refine Sat.fin (Sat.end1 rfl rfl rfl True.intro (.refl _ purX) (by first | exact .inl rfl | exact .inr rfl) (fun _ h => h)) ?_; (rw [q]))
    · refine Sat.back (x + 1) [] rfl ?_ ?_ ?_
      · (repeat' (first | exact AllP.nil | with_reducible refine AllP.cons ?_ ?_)) <;> first | with_reducible exact rfl | exact Int.natCast_add_one _ | exact rfl | exact trivial | (intro _ _; simp [pureL, pureS, pureE]; done) | exact ⟨rfl, rfl, rfl, rfl⟩
      · refine ⟨by omega, fun i hi => ?_⟩
        rcases Nat.lt_succ_iff_lt_or_eq.1 hi with h1 | rfl
        · exact x2 i h1
        · exact h
      · omega
    have e2 : ∀ i, i < ks.length → ks.getD i [] = ks'.getD i [] := fun i hi => x2 i (by omega)
    apply Sat.loop (α := Nat) (fun x => x ≤ rs.length ∧ ∀ i, i < x → (rs.getD i role0).name = (rs'.getD i role0).name ∧ (rs.getD i role0).need = (rs'.getD i role0).need ∧ (rs.getD i role0).keys = (rs'.getD i role0).keys) (fun x => rs.length - x) 0 (fun x => [(6, .int .i64 (x : Int))]) (fun _ => []) [] [] 0
    · intro x; exact rfl
    · intro x; exact rfl
    · exact rfl
    · exact rfl
    · (repeat' (first | exact AllP.nil | with_reducible refine AllP.cons ?_ ?_)) <;> first | with_reducible exact rfl | exact Int.natCast_add_one _ | exact rfl | exact trivial | (intro _ _; simp [pureL, pureS, pureE]; done) | exact ⟨rfl, rfl, rfl, rfl⟩
    · exact ⟨Nat.zero_le _, fun i hi => by omega⟩
    · rintro y ⟨y1, y2⟩
      have hi := ints_ref (rs.getD (y : Int).toNat role0).keys (rs'.getD (y : Int).toNat role0).keys
      repeat' (first
          | ((with_reducible apply Sat.run (X := X64)); exact rfl; (first | exact True.intro | (exact phi) | skip))
          | ((with_reducible apply Sat.drawn); kernel_rfl)
          | ((with_reducible apply DSat.run (X := X64)); exact rfl; (first | exact True.intro | (exact phi) | skip))
          | ((with_reducible apply DSat.fin); kernel_rfl)
          | ((with_reducible apply Sat.cond_t); exact rfl)
          | ((with_reducible apply Sat.cond_f); exact rfl)
          | ((with_reducible apply Sat.cond_pt); exact rfl; (try dsimp only [V.EV.sub, V.EV.len]); first | assumption | omega)
          | ((with_reducible apply Sat.cond_pf); exact rfl; (try dsimp only [V.EV.sub, V.EV.len]); first | assumption | omega)
          | ((with_reducible apply Sat.cond_p); exact rfl; all_goals (intro h; (try simp only [V.EV.sub, V.EV.len] at h)))
          | ((with_reducible apply Sat.cond); exact rfl; all_goals (intro h; (try simp only [V.EV.sub, V.EV.len, Bool.cond_true_left, Bool.cond_false_right, Bool.or_eq_true, Bool.and_eq_true, Bool.or_eq_false_iff, Bool.and_eq_false_iff, Bool.not_eq_true', Bool.not_eq_false', decide_eq_true_eq, decide_eq_false_iff_not, ne_eq] at h)))
          | ((with_reducible apply Sat.callG1 (hi)); exact rfl; exact rfl; exact rfl; exact rfl; kernel_rfl; (intro hG; (exact cnvX)); exact rfl)
          | ((with_reducible apply DSat.callG1 (hi)); exact rfl; exact rfl; exact rfl; exact rfl; kernel_rfl; (intro hG; (exact cnvX)); exact rfl) | fail)
      · have hy : y < rs.length := by omega
        have q : rootEq ⟨g, ex, ks, rs⟩ ⟨g', ex', ks', rs'⟩ = false := by
          cases hq : rootEq ⟨g, ex, ks, rs⟩ ⟨g', ex', ks', rs'⟩ with
          | false => rfl
          | true =>
            exfalso
            unfold rootEq at hq
            simp only [Bool.and_eq_true, decide_eq_true_eq] at hq
            obtain ⟨r1, r2, r3⟩ := hq.2.2 y hy
            rcases h with (h | h) | h
            · exact h r1
            · exact h r2
            · exact h r3
        (refine Sat.fin (Sat.end1 rfl rfl rfl True.intro (.refl _ purX) (by first | exact .inl rfl | exact .inr rfl) (fun _ h => h)) ?_; (rw [q]))
      · refine Sat.back (y + 1) [] rfl ?_ ?_ ?_
        · (repeat' (first | exact AllP.nil | with_reducible refine AllP.cons ?_ ?_)) <;> first | with_reducible exact rfl | exact Int.natCast_add_one _ | exact rfl | exact trivial | (intro _ _; simp [pureL, pureS, pureE]; done) | exact ⟨rfl, rfl, rfl, rfl⟩
        · refine ⟨by omega, fun i hi => ?_⟩
          rcases Nat.lt_succ_iff_lt_or_eq.1 hi with h1 | rfl
          · exact y2 i h1
          · exact ⟨Classical.not_not.1 h.1.1, Classical.not_not.1 h.1.2, h.2⟩
        · omega
      · (refine Sat.fin (Sat.end1 rfl rfl rfl True.intro (.refl _ purX) (by first | exact .inl rfl | exact .inr rfl) (fun _ h => h)) ?_; (refine congrArg SV.bool (Eq.trans (show rootEq ⟨g, ex, ks, rs⟩ ⟨g', ex', ks', rs'⟩ = true by unfold rootEq; rw [decide_eq_true (p := ∀ i, i < ks.length → ks.getD i [] = ks'.getD i []) e2, decide_eq_true (p := ∀ i, i < rs.length → (rs.getD i role0).name = (rs'.getD i role0).name ∧ (rs.getD i role0).need = (rs'.getD i role0).need ∧ (rs.getD i role0).keys = (rs'.getD i role0).keys) (fun i hi => y2 i (by omega)), decide_eq_true ⟨p1, p2, p5, p6⟩]; rfl) rfl)))
theorem rootEq_iff (a b : RootL) : rootEq a b = true ↔ a = b := by
  constructor
  · intro h
    unfold rootEq at h
    simp only [Bool.and_eq_true, decide_eq_true_eq] at h
    obtain ⟨⟨q1, q2, q3, q4⟩, q5, q6⟩ := h
    obtain ⟨g, ex, ks, rs⟩ := a
    obtain ⟨g', ex', ks', rs'⟩ := b
    dsimp only at q1 q2 q3 q4 q5 q6
    have e1 : ks = ks' := by
      refine List.ext_getElem q3 fun i h3 h4 => ?_
      have := q5 i h3
      simpa only [List.getD_eq_getElem?_getD, List.getElem?_eq_getElem h3, List.getElem?_eq_getElem h4, Option.getD_some] using this
    have e2 : rs = rs' := by
      refine List.ext_getElem q4 fun i h3 h4 => ?_
      have := q6 i h3
      simp only [List.getD_eq_getElem?_getD, List.getElem?_eq_getElem h3, List.getElem?_eq_getElem h4, Option.getD_some] at this
      cases hp : rs[i] with
      | mk n1 k1 m1 =>
        cases hq : rs'[i] with
        | mk n2 k2 m2 =>
          rw [hp, hq] at this
          obtain ⟨r1, r2, r3⟩ := this
          dsimp only at r1 r2 r3
          rw [r1, r2, r3]
    rw [q1, q2, e1, e2]
  · rintro rfl
    unfold rootEq
    simp
def rootS : RootL := ⟨1, 2, [List.replicate 32 7], [⟨[97], [0], 1⟩]⟩
theorem root_law : Fun Tryd.prog [] 30 [] rootS.v := by
  have hl : (List.replicate 32 (7 : UInt8)).length = 32 := rfl
  have hv : ∀ x, x < 32 → (List.replicate 32 (7 : UInt8)).getD x 0 = 7 := fun x hx => by rw [List.getD_eq_getElem?_getD, List.getElem?_replicate, if_pos hx]; rfl
  refine Fun.mk 6 Tryd.func30 rfl Tryd.ntmps30 rfl rfl fun T w0 => ?_
  repeat' (first
      | ((with_reducible apply Sat.run (X := X64)); exact rfl; (first | exact True.intro | (exact phi) | skip))
      | ((with_reducible apply Sat.drawn); kernel_rfl)
      | ((with_reducible apply DSat.run (X := X64)); exact rfl; (first | exact True.intro | (exact phi) | skip))
      | ((with_reducible apply DSat.fin); kernel_rfl)
      | ((with_reducible apply Sat.cond_t); exact rfl)
      | ((with_reducible apply Sat.cond_f); exact rfl)
      | ((with_reducible apply Sat.cond_pt); exact rfl; (try dsimp only [V.EV.sub, V.EV.len]); first | assumption | omega)
      | ((with_reducible apply Sat.cond_pf); exact rfl; (try dsimp only [V.EV.sub, V.EV.len]); first | assumption | omega)
      | ((with_reducible apply Sat.cond_p); exact rfl; all_goals intro h)
      | ((with_reducible apply Sat.cond); exact rfl; all_goals intro h) | fail)
  generalize hm : List.replicate 32 (7 : UInt8) = m at hl hv
  apply Sat.loop (α := Nat) (fun x => x ≤ 32) (fun x => 32 - x) 0 (fun x => [(2, .int .i64 (x : Int))]) (fun x => [(1, .cells 23 [.arr 32 (.u8 (m.take x ++ List.replicate (32 - x) 0))])]) [] [] 0
  · intro x; exact rfl
  · intro x; exact rfl
  · exact rfl
  · exact rfl
  · (repeat' (first | exact AllP.nil | with_reducible refine AllP.cons ?_ ?_)) <;> first | exact rfl | exact trivial
  · exact Nat.zero_le _
  · intro x hx
    by_cases hx2 : x < 32
    · have e := set_step m x hl hx2
      rw [hv x hx2] at e
      repeat' (first
          | ((with_reducible apply Sat.run (X := X64)); exact rfl; (first | exact True.intro | (exact phi) | skip))
          | ((with_reducible apply Sat.drawn); kernel_rfl)
          | ((with_reducible apply DSat.run (X := X64)); exact rfl; (first | exact True.intro | (exact phi) | skip))
          | ((with_reducible apply DSat.fin); kernel_rfl)
          | ((with_reducible apply Sat.cond_t); exact rfl)
          | ((with_reducible apply Sat.cond_f); exact rfl)
          | ((with_reducible apply Sat.cond_pt); exact rfl; (try dsimp only [V.EV.sub, V.EV.len]); first | assumption | omega)
          | ((with_reducible apply Sat.cond_pf); exact rfl; (try dsimp only [V.EV.sub, V.EV.len]); first | assumption | omega)
          | ((with_reducible apply Sat.cond_p); exact rfl; all_goals intro h)
          | ((with_reducible apply Sat.cond); exact rfl; all_goals intro h) | fail)
      refine Sat.back (x + 1) [] rfl ?_ (by omega) (by omega)
      (repeat' (first | exact AllP.nil | with_reducible refine AllP.cons ?_ ?_)) <;> first | with_reducible exact rfl | exact Int.natCast_add_one _ | exact congrArg EV.u8 e | exact rfl | exact trivial
    · have hx3 : x = 32 := by omega
      subst hx3
      repeat' (first
          | ((with_reducible apply Sat.run (X := X64)); exact rfl; (first | exact True.intro | (exact phi) | skip))
          | ((with_reducible apply Sat.drawn); kernel_rfl)
          | ((with_reducible apply DSat.run (X := X64)); exact rfl; (first | exact True.intro | (exact phi) | skip))
          | ((with_reducible apply DSat.fin); kernel_rfl) | fail)
      with_reducible apply Sat.cond_f
      · exact rfl
      have e32 : m.take 32 ++ List.replicate (32 - 32) 0 = m := by rw [List.take_of_length_le (by omega)]; simp
      refine Sat.runN (X := X64) 6 rfl True.intro ?_
      rw [e32]
      refine Sat.enter ?_
      refine Sat.one (X := X64) rfl True.intro ?_
      refine Sat.one (X := X64) rfl True.intro ?_
      refine Sat.one (X := X64) rfl True.intro ?_
      refine Sat.one (X := X64) rfl True.intro ?_
      refine Sat.freezeR true 3 rfl ?_ ?_
      · (repeat' (first | exact AllP.nil | with_reducible refine AllP.cons ?_ ?_)) <;> first | exact rfl | exact trivial | exact .inl ⟨rfl, rfl, rfl⟩ | (intro _ _; simp [pureL, pureS, pureE]; done) | (intro _ _; exact rfl) | (intro i hi; rcases i with _ | i; exact ⟨by simp [pureS, pureE], trivial⟩; exact trivial) | exact ⟨rfl, rfl, rfl, rfl⟩
      refine Sat.freezeR true 2 rfl ?_ ?_
      · (repeat' (first | exact AllP.nil | with_reducible refine AllP.cons ?_ ?_)) <;> first | exact rfl | exact trivial | exact .inl ⟨rfl, rfl, rfl⟩ | (intro _ _; simp [pureL, pureS, pureE]; done) | (intro _ _; exact rfl) | (intro i hi; rcases i with _ | i; exact ⟨by simp [pureS, pureE], trivial⟩; exact trivial) | exact ⟨rfl, rfl, rfl, rfl⟩
      repeat' (first
          | ((with_reducible apply Sat.run (X := X64)); exact rfl; (first | exact True.intro | (exact phi) | skip))
          | ((with_reducible apply Sat.drawn); kernel_rfl)
          | ((with_reducible apply DSat.run (X := X64)); exact rfl; (first | exact True.intro | (exact phi) | skip))
          | ((with_reducible apply DSat.fin); kernel_rfl)
          | ((with_reducible apply Sat.cond_t); exact rfl)
          | ((with_reducible apply Sat.cond_f); exact rfl)
          | ((with_reducible apply Sat.cond_pt); exact rfl; (try dsimp only [V.EV.sub, V.EV.len]); first | assumption | omega)
          | ((with_reducible apply Sat.cond_pf); exact rfl; (try dsimp only [V.EV.sub, V.EV.len]); first | assumption | omega)
          | ((with_reducible apply Sat.cond_p); exact rfl; all_goals intro h)
          | ((with_reducible apply Sat.cond); exact rfl; all_goals intro h) | fail)
      refine Sat.end1 rfl rfl rfl True.intro (.agg _ _ (.cons _ _ _ _ (.refl _ trivial) (.cons _ _ _ _ (.refl _ trivial) (.cons _ _ _ _ (.gx _ 1 32 _ _ (.refl _ ?_) ?_) (.cons _ _ _ _ (.gx _ 1 3 _ _ (.all _ _ _ _ _ rfl rfl rfl ?_) ?_) .nil))))) (by first | exact .inl rfl | exact .inr rfl) (fun _ h => h)
      · intro i hi
        rcases i with _ | i
        · exact ⟨by simp [pureS, pureE], trivial⟩
        · omega
      · intro i hi
        rcases i with _ | i
        · show [SV.arr 32 (EV.u8 m)] = [SV.arr 32 (EV.u8 (List.replicate 32 7))]
          rw [hm]
        · omega
      · intro i hi
        rcases i with _ | i
        · exact ⟨trivial, by simp [pureS, pureE], trivial, trivial⟩
        · omega
      · intro i hi
        rcases i with _ | i
        · rfl
        · omega
end Go.Proofs.YtegbdcadlmefgaaDoor
end
section
namespace Go.Proofs.YtegbdcadlmefgaaDoor.V
open Go.RowKit
section
variable {C : Ctx} {Q0 : Exit → Act → World → Prop} {F F' F0 : Tr} {M M' M0 : Mem} {ids ids' ids0 : List Nat} {k : List Kont} {full rest : List Oper} {hist : List Ent} {i : Nat}
theorem Sat.call0 {d : Option Tmp} {x : Operand} {f : FuncId} {ats : Array TypeId} {type : TypeId} {pos : String} {after : Array Edge} {res : SV}
    (hspec : Fun C.P C.Γ f [] res) (hn : C.wide = false) (hx : argsF C.Γ F x [] = some (f, [])) (hc : callable C.P f = true) (hp : putD C.N F d (some res) some = some F') (h : Sat C Q0 (.reg full rest F' M ids k)) :
    Sat C Q0 (.reg full (⟨d, .call ⟨.value x, #[], ats⟩, type, pos, after, none⟩ :: rest) F M ids k) := Sat.call hspec hn hx hc .nil hp h
theorem DSat.call0 {d : Option Tmp} {x : Operand} {f : FuncId} {ats : Array TypeId} {type : TypeId} {pos : String} {after : Array Edge} {res : SV}
    (hspec : Fun C.P C.Γ f [] res) (hn : C.wide = false) (hx : argsF C.Γ F x [] = some (f, [])) (hc : callable C.P f = true) (hp : putD C.N F d (some res) some = some F')
    (h : DSat C Q0 k full F0 M0 ids0 (i + 1) (⟨i, d, some res, none, [], [], false⟩ :: hist) rest F' M ids) :
    DSat C Q0 k full F0 M0 ids0 i hist (⟨d, .call ⟨.value x, #[], ats⟩, type, pos, after, none⟩ :: rest) F M ids := DSat.call hspec hn hx hc .nil hp h
theorem DSat.callM {d : Option Tmp} {x : Operand} {f : FuncId} {xs : List Operand} {ats : Array TypeId} {type : TypeId} {pos : String} {after : Array Edge} {svs args : List SV} {res : SV} {j : Nat} {want : Bool} {H : Prop}
    (hspec : Fun C.P C.Γ f args res) (hn : C.wide = false) (hH : guardH F full j want = some H) (hh : H) (hx : argsF C.Γ F x xs = some (f, svs)) (hc : callable C.P f = true) (hconv : Convs [] svs args) (hp : putD C.N F d (some res) some = some F')
    (h : DSat C Q0 k full F0 M0 ids0 (i + 1) (⟨i, d, some res, none, [], [], false⟩ :: hist) rest F' M ids) :
    DSat C Q0 k full F0 M0 ids0 i hist (⟨d, .call ⟨.value x, ⟨xs⟩, ats⟩, type, pos, after, some (j, want)⟩ :: rest) F M ids := by
  intro D
  obtain ⟨F1, h1, h2⟩ := putD_inv hp
  cases h1
  obtain ⟨p1, p2⟩ := putD_get h2
  refine h (D.step (fun ho Q K Fa Ma U E a w q1 q2 _ q3 hst hK => ?_) rfl rfl p2 (fun id => rfl) rfl)
  have hiff := guardH_ok (full := full) hst (guardH_le rfl q1 hH)
  obtain ⟨F2, hF2⟩ := tr_put Fa d (some res)
  unfold wpOp
  simp only [List.getElem?_toArray, ho]
  have hy := hiff.2 hh
  simp only [Region.wanted, hy, if_true]
  left
  unfold Oper.wp
  obtain ⟨vs, ht, hex⟩ := argsF_ok hst.vw (argsF_le (looks_le (F := F) q1 fun _ => rfl) hx)
  rw [hex, run_callFunc_go hc]
  have hH : MOk E (trk C.T0 Ma E) [] w := ⟨fun id B hf => by simp [find] at hf, fun id id' b hf => by simp [find] at hf⟩
  have ht' := Convs.tups (T' := trk C.T0 Ma E) hH (fun _ _ h => h) (fun id b hf => by simp [find] at hf) hconv ht
  refine (hspec (trk C.T0 Ma E) w _ (hst.lt hn) hst.glob ht').mono ?_
  rintro e w' ⟨v, rfl, hr, hb⟩
  exact hK F2 Ma U E _ w' hF2 (fun id => rfl) (fun k => by simp) ((hst.below hb).putG p1 hF2 fun s' hs' => by cases hs'; exact hr.up)
theorem DSat.callM0 {d : Option Tmp} {x : Operand} {f : FuncId} {ats : Array TypeId} {type : TypeId} {pos : String} {after : Array Edge} {res : SV} {j : Nat} {want : Bool} {H : Prop}
    (hspec : Fun C.P C.Γ f [] res) (hn : C.wide = false) (hH : guardH F full j want = some H) (hh : H) (hx : argsF C.Γ F x [] = some (f, [])) (hc : callable C.P f = true) (hp : putD C.N F d (some res) some = some F')
    (h : DSat C Q0 k full F0 M0 ids0 (i + 1) (⟨i, d, some res, none, [], [], false⟩ :: hist) rest F' M ids) :
    DSat C Q0 k full F0 M0 ids0 i hist (⟨d, .call ⟨.value x, #[], ats⟩, type, pos, after, some (j, want)⟩ :: rest) F M ids := DSat.callM hspec hn hH hh hx hc .nil hp h
/-! ### Slots that speak of blocks that are gone -/
def hasAll (M : Mem) : List Nat → Bool
  | [] => true
  | i :: r => hasB M i && hasAll M r
def tidyK {α : Type} (M : Mem) : Tr → (Tr → Option α) → Option α
  | .e, K => K .e
  | .n l x r, K => tidyK M l fun l' => tidyK M r fun r' => match x with
    | none => K (.n l' none r')
    | some s => match hasAll M (idsOf s) with
      | true => K (.n l' (some s) r')
      | false => K (.n l' none r')
def tidyT (M : Mem) : Tr → Tr
  | .e => .e
  | .n l x r => match x with
    | none => .n (tidyT M l) none (tidyT M r)
    | some s => match hasAll M (idsOf s) with
      | true => .n (tidyT M l) (some s) (tidyT M r)
      | false => .n (tidyT M l) none (tidyT M r)
theorem tidyK_eq {α : Type} : ∀ {F : Tr} {K : Tr → Option α}, tidyK M F K = K (tidyT M F)
  | .e, K => rfl
  | .n l x r, K => by
    simp only [tidyK, tidyT]
    rw [tidyK_eq, tidyK_eq]
    cases x with
    | none => rfl
    | some s =>
      dsimp only
      cases hasAll M (idsOf s) <;> rfl
theorem tidyT_get : ∀ (F : Tr) (t : Nat) (s : SV), (tidyT M F).get t = some s → F.get t = some s
  | .e, t, s => fun h => by cases t <;> exact h
  | .n l x r, t, s => by
    have h1 := tidyT_get l
    have h2 := tidyT_get r
    intro h
    have key : ∀ y, (x = none → y = none) → (∀ z, y = some z → x = some z) → (Tr.n (tidyT M l) y (tidyT M r)).get t = some s → (Tr.n l x r).get t = some s := by
      intro y _ hy h
      cases t with
      | zero => exact hy _ h
      | succ t =>
        simp only [Tr.get] at h ⊢
        cases hb : Nat.beq (Nat.mod t 2) 0 with
        | true => rw [hb] at h; exact h1 _ _ h
        | false => rw [hb] at h; exact h2 _ _ h
    unfold tidyT at h
    cases x with
    | none => exact key none (fun h => h) (fun z hz => hz) h
    | some x =>
      dsimp only at h
      split at h
      · exact key (some x) (fun h => h) (fun z hz => hz) h
      · exact key none (fun _ => rfl) (fun z hz => by cases hz) h
theorem Sat.tidy (hz : tidyK M F some = some F') (hn : Sat C Q0 (.reg full rest F' M ids k)) : Sat C Q0 (.reg full rest F M ids k) := by
  rw [tidyK_eq] at hz
  cases hz
  intro U E a w hsup h
  exact hn U E a w hsup ⟨h.defers, h.size, fun t s hs => h.slots t s (tidyT_get _ _ _ hs), h.mem, h.own, h.fresh, h.kp, h.hid, h.glob, h.pin, h.held⟩
end
end Go.Proofs.YtegbdcadlmefgaaDoor.V
end
section
namespace Go.Proofs.YtegbdcadlmefgaaDoor
open Go.RowKit V
--PURE: (intro _ _; simp [pureL, pureS, pureE]; done)
set_option maxRecDepth 100000
set_option maxHeartbeats 4000000
set_option linter.unusedSimpArgs false
/-- The bytes of the examples. -/
def smallB : List UInt8 := [86, 1, 2, 0, 1, 0, 0, 0, 3, 0, 1, 0, 0] ++ List.replicate 32 0 ++ [0, 1] ++ List.replicate 34 0
def rootC : List UInt8 := [82, 0, 0, 0, 1, 0, 0, 0, 2, 1] ++ List.replicate 32 7 ++ [1, 1, 97, 1, 0, 1]
theorem smallB_eq : bytesR smallR = smallB := by decide +kernel
theorem rootC_eq : bytesQ rootS = rootC := by decide +kernel
theorem small_valid : validB smallR = true := by decide +kernel
theorem root_valid : rootB rootS = true := by decide +kernel
theorem small_wf : RelW smallR := ⟨rfl, rfl, fun _ h => by cases h⟩
theorem root_wf : RootW rootS := ⟨fun k h => by
  rcases List.mem_singleton.1 h with rfl
  rfl⟩
def floorR : Rel := ⟨258, 259, 3, 65536, List.replicate 32 0, 1, List.replicate 32 0, [], []⟩
def goneR : Rel := ⟨258, 1, 3, 65536, List.replicate 32 0, 1, List.replicate 32 0, [258], []⟩
theorem floor_valid : validB floorR = false := by decide +kernel
theorem gone_valid : validB goneR = false := by decide +kernel
theorem zeroRoot_valid : rootB zeroRoot = false := by decide +kernel
theorem okP_small : okP smallB = true ∧ parseP smallB = smallR := by rw [← smallB_eq]; exact okP_of _ small_valid small_wf
theorem okQ_root : okQ rootC = true ∧ parseQ rootC = rootS := by rw [← rootC_eq]; exact okQ_of _ root_valid root_wf
theorem okP_root {r : RootL} : okP (bytesQ r) = false := by
  cases h : okP (bytesQ r) with
  | false => rfl
  | true =>
    have h1 := (okP_inv h).1
    have h2 := bytes_apart (parseP (bytesQ r)) r [] []
    rw [List.append_nil, List.append_nil] at h2
    exact absurd h1.symm h2
theorem okQ_rel {r : Rel} : okQ (bytesR r) = false := by
  cases h : okQ (bytesR r) with
  | false => rfl
  | true =>
    have h1 := (okQ_inv h).1
    have h2 := bytes_apart r (parseQ (bytesR r)) [] []
    rw [List.append_nil, List.append_nil] at h2
    exact absurd h1 h2
theorem x23b : Fun Tryd.prog [] 23 [.ro (.u8 smallB)] (.tup [smallR.v, .int .i64 0]) := by
  have h := parse_walk smallB
  rw [okP_small.1, okP_small.2] at h
  exact h
theorem x23c : Fun Tryd.prog [] 23 [.ro (.u8 rootC)] (.tup [zeroRel.v, .int .i64 260]) := by
  have h := parse_walk rootC
  rw [← rootC_eq, okP_root] at h
  rw [← rootC_eq]
  exact h
theorem x23n : Fun Tryd.prog [] 23 [.ro (.u8 [])] (.tup [zeroRel.v, .int .i64 260]) := parse_walk []
theorem x24c : Fun Tryd.prog [] 24 [.ro (.u8 rootC)] (.tup [rootS.v, .int .i64 0]) := by
  have h := parseRoot_walk rootC
  rw [okQ_root.1, okQ_root.2] at h
  exact h
theorem x24b : Fun Tryd.prog [] 24 [.ro (.u8 smallB)] (.tup [zeroRoot.v, .int .i64 260]) := by
  have h := parseRoot_walk smallB
  rw [← smallB_eq, okQ_rel] at h
  rw [← smallB_eq]
  exact h
theorem x25 : Fun Tryd.prog [] 25 [smallR.v, smallR.v] (.bool true) := by
  have h := same_rel smallR smallR
  rw [(relEq_iff _ _).2 rfl] at h
  exact h
theorem x26 : Fun Tryd.prog [] 26 [rootS.v, rootS.v] (.bool true) := by
  have h := same_root rootS rootS
  rw [(rootEq_iff _ _).2 rfl] at h
  exact h
theorem x14b : Fun Tryd.prog [] 14 [.ro (.u8 smallB), .ro (.u8 smallB)] (.bool true) := by
  have h := same_ref smallB smallB
  rw [decide_eq_true rfl] at h
  exact h
theorem x14c : Fun Tryd.prog [] 14 [.ro (.u8 rootC), .ro (.u8 rootC)] (.bool true) := by
  have h := same_ref rootC rootC
  rw [decide_eq_true rfl] at h
  exact h
theorem x15s : Fun Tryd.prog [] 15 [smallR.v] (.ro (.u8 smallB)) := by
  have h := bytes_spec smallR small_valid
  rw [smallB_eq] at h
  exact h
theorem x15g : Fun Tryd.prog [] 15 [goneR.v] .nils := bytes_f goneR gone_valid
theorem x19 : Fun Tryd.prog [] 19 [rootS.v] (.ro (.u8 rootC)) := by
  have h := rootBytes_spec rootS root_valid
  rw [rootC_eq] at h
  exact h
theorem x12f : Fun Tryd.prog [] 12 [floorR.v] (.bool false) := by have h := valid_spec floorR; rw [floor_valid] at h; exact h
theorem x12g : Fun Tryd.prog [] 12 [goneR.v] (.bool false) := by have h := valid_spec goneR; rw [gone_valid] at h; exact h
theorem x12s : Fun Tryd.prog [] 12 [smallR.v] (.bool true) := by have h := valid_spec smallR; rw [small_valid] at h; exact h
theorem x17s : Fun Tryd.prog [] 17 [rootS.v] (.bool true) := by have h := validRoot_spec rootS; rw [root_valid] at h; exact h
theorem x17z : Fun Tryd.prog [] 17 [zeroRoot.v] (.bool false) := by have h := validRoot_spec zeroRoot; rw [zeroRoot_valid] at h; exact h
attribute [local irreducible] V.Sat V.DSat tkO tkR tkB tkZ numV hashO
theorem sanity_law : Fun Tryd.prog [] 11 [] (.bool true) := by
  refine Fun.mkF 8 Tryd.func11 rfl Tryd.ntmps11 rfl rfl fun hf T w0 => ?_
  repeat' (first
      | ((with_reducible apply Sat.run (X := X64)); exact rfl; (first | exact True.intro | (exact phi) | skip))
      | ((with_reducible apply Sat.drawn); kernel_rfl)
      | ((with_reducible apply DSat.run (X := X64)); exact rfl; (first | exact True.intro | (exact phi) | skip))
      | ((with_reducible apply DSat.fin); kernel_rfl)
      | ((with_reducible apply Sat.cond_t); exact rfl)
      | ((with_reducible apply Sat.cond_f); exact rfl)
      | ((with_reducible apply Sat.cond_pt); exact rfl; (try dsimp only [V.EV.sub, V.EV.len]); first | assumption | omega)
      | ((with_reducible apply Sat.cond_pf); exact rfl; (try dsimp only [V.EV.sub, V.EV.len]); first | assumption | omega)
      | ((with_reducible apply Sat.cond_p); exact rfl; all_goals intro h)
      | ((with_reducible apply Sat.cond); exact rfl; all_goals intro h)
      | ((with_reducible apply Sat.gon); exact rfl; first | exact rfl | (decide +kernel))
      | ((with_reducible apply Sat.call0 (small_law)); exact rfl; exact rfl; kernel_rfl; exact rfl)
      | ((with_reducible apply DSat.call0 (small_law)); exact rfl; exact rfl; kernel_rfl; exact rfl)
      | ((with_reducible apply DSat.callM0 (small_law)); exact rfl; exact rfl; (first | exact rfl | assumption | (decide +kernel)); exact rfl; kernel_rfl; exact rfl)
      | ((with_reducible apply Sat.call0 (root_law)); exact rfl; exact rfl; kernel_rfl; exact rfl)
      | ((with_reducible apply DSat.call0 (root_law)); exact rfl; exact rfl; kernel_rfl; exact rfl)
      | ((with_reducible apply DSat.callM0 (root_law)); exact rfl; exact rfl; (first | exact rfl | assumption | (decide +kernel)); exact rfl; kernel_rfl; exact rfl) | fail)
  refine Sat.tidy rfl ?_
  refine Sat.freezeR true 4 rfl ?_ ?_
  · (repeat' (first | exact AllP.nil | with_reducible refine AllP.cons ?_ ?_)) <;> first | exact rfl | exact trivial | exact .inl ⟨rfl, rfl, rfl⟩ | (intro _ _; simp [pureL, pureS, pureE]; done) | (intro _ _; exact rfl) | (intro _; exact rfl) | (intro _; exact trivial) | (intro _; exact .inl ⟨rfl, rfl, rfl⟩) | (intro _ _ _; simp [pureL, pureS, pureE]; done) | exact ⟨rfl, rfl, rfl, rfl⟩ | (intro _; exact ⟨rfl, rfl, rfl, rfl⟩)
  refine Sat.freezeR true 9 rfl ?_ ?_
  · (repeat' (first | exact AllP.nil | with_reducible refine AllP.cons ?_ ?_)) <;> first | exact rfl | exact trivial | exact .inl ⟨rfl, rfl, rfl⟩ | (intro _ _; simp [pureL, pureS, pureE]; done) | (intro _ _; exact rfl) | (intro _; exact rfl) | (intro _; exact trivial) | (intro _; exact .inl ⟨rfl, rfl, rfl⟩) | (intro _ _ _; simp [pureL, pureS, pureE]; done) | exact ⟨rfl, rfl, rfl, rfl⟩ | (intro _; exact ⟨rfl, rfl, rfl, rfl⟩)
  repeat' (first
      | ((with_reducible apply Sat.run (X := X64)); exact rfl; (first | exact True.intro | (exact phi) | skip))
      | ((with_reducible apply Sat.drawn); kernel_rfl)
      | ((with_reducible apply DSat.run (X := X64)); exact rfl; (first | exact True.intro | (exact phi) | skip))
      | ((with_reducible apply DSat.fin); kernel_rfl)
      | ((with_reducible apply Sat.cond_t); exact rfl)
      | ((with_reducible apply Sat.cond_f); exact rfl)
      | ((with_reducible apply Sat.cond_pt); exact rfl; (try dsimp only [V.EV.sub, V.EV.len]); first | assumption | omega)
      | ((with_reducible apply Sat.cond_pf); exact rfl; (try dsimp only [V.EV.sub, V.EV.len]); first | assumption | omega)
      | ((with_reducible apply Sat.cond_p); exact rfl; all_goals intro h)
      | ((with_reducible apply Sat.cond); exact rfl; all_goals intro h)
      | ((with_reducible apply Sat.gon); exact rfl; first | exact rfl | (decide +kernel))
      | ((with_reducible apply Sat.call0 (small_law)); exact rfl; exact rfl; kernel_rfl; exact rfl)
      | ((with_reducible apply DSat.call0 (small_law)); exact rfl; exact rfl; kernel_rfl; exact rfl)
      | ((with_reducible apply DSat.callM0 (small_law)); exact rfl; exact rfl; (first | exact rfl | assumption | (decide +kernel)); exact rfl; kernel_rfl; exact rfl)
      | ((with_reducible apply Sat.call0 (root_law)); exact rfl; exact rfl; kernel_rfl; exact rfl)
      | ((with_reducible apply DSat.call0 (root_law)); exact rfl; exact rfl; kernel_rfl; exact rfl)
      | ((with_reducible apply DSat.callM0 (root_law)); exact rfl; exact rfl; (first | exact rfl | assumption | (decide +kernel)); exact rfl; kernel_rfl; exact rfl)
      | ((with_reducible apply Sat.call (x23b)); exact rfl; exact rfl; kernel_rfl; (exact cnvX); exact rfl)
      | ((with_reducible apply DSat.call (x23b)); exact rfl; exact rfl; kernel_rfl; (exact cnvX); exact rfl)
      | ((with_reducible apply Sat.call (x23c)); exact rfl; exact rfl; kernel_rfl; (exact cnvX); exact rfl)
      | ((with_reducible apply DSat.call (x23c)); exact rfl; exact rfl; kernel_rfl; (exact cnvX); exact rfl)
      | ((with_reducible apply Sat.call (x23n)); exact rfl; exact rfl; kernel_rfl; (exact cnvX); exact rfl)
      | ((with_reducible apply DSat.call (x23n)); exact rfl; exact rfl; kernel_rfl; (exact cnvX); exact rfl)
      | ((with_reducible apply Sat.call (x24c)); exact rfl; exact rfl; kernel_rfl; (exact cnvX); exact rfl)
      | ((with_reducible apply DSat.call (x24c)); exact rfl; exact rfl; kernel_rfl; (exact cnvX); exact rfl)
      | ((with_reducible apply Sat.call (x24b)); exact rfl; exact rfl; kernel_rfl; (exact cnvX); exact rfl)
      | ((with_reducible apply DSat.call (x24b)); exact rfl; exact rfl; kernel_rfl; (exact cnvX); exact rfl)
      | ((with_reducible apply Sat.callG1 (x25)); exact rfl; exact rfl; exact rfl; exact rfl; kernel_rfl; (intro hG; (exact cnvX)); exact rfl)
      | ((with_reducible apply DSat.callG1 (x25)); exact rfl; exact rfl; exact rfl; exact rfl; kernel_rfl; (intro hG; (exact cnvX)); exact rfl)
      | ((with_reducible apply Sat.callG1 (x26)); exact rfl; exact rfl; exact rfl; exact rfl; kernel_rfl; (intro hG; (exact cnvX)); exact rfl)
      | ((with_reducible apply DSat.callG1 (x26)); exact rfl; exact rfl; exact rfl; exact rfl; kernel_rfl; (intro hG; (exact cnvX)); exact rfl) | fail)
  repeat' (first
      | ((with_reducible apply Sat.run (X := X64)); exact rfl; (first | exact True.intro | (exact phi) | skip))
      | ((with_reducible apply Sat.drawn); kernel_rfl)
      | ((with_reducible apply DSat.run (X := X64)); exact rfl; (first | exact True.intro | (exact phi) | skip))
      | ((with_reducible apply DSat.fin); kernel_rfl)
      | ((with_reducible apply Sat.cond_t); exact rfl)
      | ((with_reducible apply Sat.cond_f); exact rfl)
      | ((with_reducible apply Sat.cond_pt); exact rfl; (try dsimp only [V.EV.sub, V.EV.len]); first | assumption | omega)
      | ((with_reducible apply Sat.cond_pf); exact rfl; (try dsimp only [V.EV.sub, V.EV.len]); first | assumption | omega)
      | ((with_reducible apply Sat.cond_p); exact rfl; all_goals intro h)
      | ((with_reducible apply Sat.cond); exact rfl; all_goals intro h)
      | ((with_reducible apply Sat.gon); exact rfl; first | exact rfl | (decide +kernel))
      | ((with_reducible apply Sat.call0 (small_law)); exact rfl; exact rfl; kernel_rfl; exact rfl)
      | ((with_reducible apply DSat.call0 (small_law)); exact rfl; exact rfl; kernel_rfl; exact rfl)
      | ((with_reducible apply DSat.callM0 (small_law)); exact rfl; exact rfl; (first | exact rfl | assumption | (decide +kernel)); exact rfl; kernel_rfl; exact rfl)
      | ((with_reducible apply Sat.call0 (root_law)); exact rfl; exact rfl; kernel_rfl; exact rfl)
      | ((with_reducible apply DSat.call0 (root_law)); exact rfl; exact rfl; kernel_rfl; exact rfl)
      | ((with_reducible apply DSat.callM0 (root_law)); exact rfl; exact rfl; (first | exact rfl | assumption | (decide +kernel)); exact rfl; kernel_rfl; exact rfl)
      | ((with_reducible apply Sat.call (x15s)); exact rfl; exact rfl; kernel_rfl; (exact cnvX); exact rfl)
      | ((with_reducible apply DSat.call (x15s)); exact rfl; exact rfl; kernel_rfl; (exact cnvX); exact rfl)
      | ((with_reducible apply Sat.call (x19)); exact rfl; exact rfl; kernel_rfl; (exact cnvX); exact rfl)
      | ((with_reducible apply DSat.call (x19)); exact rfl; exact rfl; kernel_rfl; (exact cnvX); exact rfl)
      | ((with_reducible apply Sat.callR (x15g)); exact rfl; exact rfl; exact rfl; kernel_rfl; (exact cnvX); exact rfl)
      | ((with_reducible apply DSat.callR (x15g)); exact rfl; exact rfl; exact rfl; kernel_rfl; (exact cnvX); exact rfl)
      | ((with_reducible apply Sat.callR (x14b)); exact rfl; exact rfl; exact rfl; kernel_rfl; (exact cnvX); exact rfl)
      | ((with_reducible apply DSat.callR (x14b)); exact rfl; exact rfl; exact rfl; kernel_rfl; (exact cnvX); exact rfl)
      | ((with_reducible apply Sat.callR (x14c)); exact rfl; exact rfl; exact rfl; kernel_rfl; (exact cnvX); exact rfl)
      | ((with_reducible apply DSat.callR (x14c)); exact rfl; exact rfl; exact rfl; kernel_rfl; (exact cnvX); exact rfl)
      | ((with_reducible apply Sat.callR (x12f)); exact rfl; exact rfl; exact rfl; kernel_rfl; (exact cnvX); exact rfl)
      | ((with_reducible apply DSat.callR (x12f)); exact rfl; exact rfl; exact rfl; kernel_rfl; (exact cnvX); exact rfl)
      | ((with_reducible apply Sat.callR (x12g)); exact rfl; exact rfl; exact rfl; kernel_rfl; (exact cnvX); exact rfl)
      | ((with_reducible apply DSat.callR (x12g)); exact rfl; exact rfl; exact rfl; kernel_rfl; (exact cnvX); exact rfl)
      | ((with_reducible apply Sat.callR (x12s)); exact rfl; exact rfl; exact rfl; kernel_rfl; (exact cnvX); exact rfl)
      | ((with_reducible apply DSat.callR (x12s)); exact rfl; exact rfl; exact rfl; kernel_rfl; (exact cnvX); exact rfl)
      | ((with_reducible apply Sat.callR (x17s)); exact rfl; exact rfl; exact rfl; kernel_rfl; (exact cnvX); exact rfl)
      | ((with_reducible apply DSat.callR (x17s)); exact rfl; exact rfl; exact rfl; kernel_rfl; (exact cnvX); exact rfl)
      | ((with_reducible apply Sat.callR (x17z)); exact rfl; exact rfl; exact rfl; kernel_rfl; (exact cnvX); exact rfl)
      | ((with_reducible apply DSat.callR (x17z)); exact rfl; exact rfl; exact rfl; kernel_rfl; (exact cnvX); exact rfl) | fail)
  (refine Sat.fin (Sat.end1 rfl rfl rfl True.intro (.refl _ purX) (by first | exact .inl rfl | exact .inr rfl) (fun _ h => h)) ?_; (first | exact congrArg SV.bool (by decide +kernel) | exact rfl))
end Go.Proofs.YtegbdcadlmefgaaDoor
end
section
namespace Go.Proofs.YtegbdcadlmefgaaDoor
open Go.RowKit V
set_option maxRecDepth 100000
set_option linter.unusedSimpArgs false
structure RawL where
  version : Nat
  floor : Nat
  expiry : Nat
  size : Nat
  s0 : UInt8
  s1 : UInt8
  gone : List UInt8
  parts : List UInt8
@[reducible] def RawL.v (x : RawL) : SV := .agg [.int .u16 (x.version : Int), .int .u16 (x.floor : Int), .int .u32 (x.expiry : Int), .int .u32 (x.size : Int), .int .u8 (x.s0.toNat : Int), .int .u8 (x.s1.toNat : Int), .ro (.u8 x.gone), .ro (.u8 x.parts)]
/-- The withdrawn versions, from the place before. -/
def goneM (v : Int) : Int → List UInt8 → List Int
  | _, [] => []
  | p, g :: r => if p + (1 + (g.toNat : Int)) = v then goneM v (p + (1 + (g.toNat : Int))) r else (p + (1 + (g.toNat : Int))) :: goneM v (p + (1 + (g.toNat : Int))) r
def nameM (i : Nat) : List UInt8 := [[65], [98, 111, 111, 116], [99, 111, 100, 101, 50], [122]].getD i []
def partsM : Nat → List UInt8 → List PartL
  | _, [] => []
  | i, p :: r => ⟨nameM i, sumB p⟩ :: partsM (i + 1) r
def verM (x : RawL) : Int := 1 + ((x.version % 60000 : Nat) : Int)
def madeR (x : RawL) : Rel := ⟨verM x, (x.floor : Int) % (verM x + 1), ((x.expiry % 1000000001 : Nat) : Int), ((x.size % 65537 : Nat) : Int), sumB x.s0, 1 + (x.s0.toNat : Int), sumB x.s1, goneM (verM x) (-1) (x.gone.take 6), partsM 0 (x.parts.take 4)⟩
theorem goneM_len (v : Int) : ∀ (l : List UInt8) (p : Int), (goneM v p l).length ≤ l.length
  | [], p => Nat.le_refl _
  | g :: r, p => by
    unfold goneM
    split
    · have := goneM_len v r (p + (1 + (g.toNat : Int)))
      simp only [List.length_cons]; omega
    · have := goneM_len v r (p + (1 + (g.toNat : Int)))
      simp only [List.length_cons]; omega
theorem goneM_mem (v : Int) : ∀ (l : List UInt8) (p : Int) (x : Int), x ∈ goneM v p l → p < x ∧ x ≤ p + 256 * l.length ∧ x ≠ v
  | [], p, x => fun h => by cases h
  | g :: r, p, x => fun h => by
    have hg := g.toNat_lt
    have ih := goneM_mem v r (p + (1 + (g.toNat : Int))) x
    unfold goneM at h
    simp only [List.length_cons]
    split at h
    · have := ih h
      omega
    · rcases List.mem_cons.1 h with rfl | h
      · rename_i hne
        exact ⟨by omega, by omega, hne⟩
      · have := ih h
        omega
theorem goneM_ris (v : Int) : ∀ (l : List UInt8) (p : Int) (i : Nat), 0 < i → i < (goneM v p l).length → (goneM v p l).getD (i - 1) 0 < (goneM v p l).getD i 0
  | [], p, i => fun _ h => by simp [goneM] at h
  | g :: r, p, i => fun h0 h => by
    have ih := goneM_ris v r (p + (1 + (g.toNat : Int)))
    unfold goneM at h ⊢
    split at h
    · rename_i hv
      rw [if_pos hv]
      exact ih i h0 h
    · rename_i hv
      rw [if_neg hv]
      simp only [List.length_cons] at h
      obtain ⟨k, rfl⟩ : ∃ k, i = k + 1 := ⟨i - 1, by omega⟩
      rw [Nat.add_sub_cancel, List.getD_cons_succ]
      rcases Nat.eq_zero_or_pos k with rfl | hk
      · rw [List.getD_cons_zero]
        have hm : (goneM v (p + (1 + (g.toNat : Int))) r).getD 0 0 ∈ goneM v (p + (1 + (g.toNat : Int))) r := by
          rw [List.getD_eq_getElem?_getD, List.getElem?_eq_getElem (by omega)]
          exact List.getElem_mem _
        exact (goneM_mem v r _ _ hm).1
      · have := ih k hk (by omega)
        obtain ⟨m, rfl⟩ : ∃ m, k = m + 1 := ⟨k - 1, by omega⟩
        rw [List.getD_cons_succ]
        simpa using this
theorem partsM_len : ∀ (l : List UInt8) (i : Nat), (partsM i l).length = l.length
  | [], _ => rfl
  | _ :: r, i => by simp [partsM, partsM_len r (i + 1)]
theorem partsM_at : ∀ (l : List UInt8) (i k : Nat), k < l.length → (partsM i l).getD k part0 = ⟨nameM (i + k), sumB (l.getD k 0)⟩
  | [], _, _ => fun h => by cases h
  | x :: r, i, k => fun h => by
    cases k with
    | zero => rfl
    | succ k =>
      have := partsM_at r (i + 1) k (by simpa using h)
      simp only [partsM, List.getD_cons_succ]
      rw [this, show i + 1 + k = i + (k + 1) by omega]
theorem nameM_ok : ∀ i : Nat, i < 4 → nameB (nameM i) = true ∧ (0 < i → Op.bytesLess (nameM (i - 1)) (nameM i) = true) := by
  intro i hi
  rcases i with _ | _ | _ | _ | i
  · exact ⟨by decide +kernel, fun h => absurd h (by omega)⟩
  · exact ⟨by decide +kernel, fun _ => by decide +kernel⟩
  · exact ⟨by decide +kernel, fun _ => by decide +kernel⟩
  · exact ⟨by decide +kernel, fun _ => by decide +kernel⟩
  · omega
theorem getD_mem {α : Type} (l : List α) (d : α) (i : Nat) (h : i < l.length) : l.getD i d ∈ l := by
  rw [List.getD_eq_getElem?_getD, List.getElem?_eq_getElem h]
  exact List.getElem_mem _
theorem madeR_valid (x : RawL) : validB (madeR x) = true := by
  have hv := Nat.mod_lt x.version (show 60000 > 0 by decide)
  have he := Nat.mod_lt x.expiry (show 1000000001 > 0 by decide)
  have hz := Nat.mod_lt x.size (show 65537 > 0 by decide)
  have hs := x.s0.toNat_lt
  have hw : 1 ≤ verM x ∧ verM x ≤ 60000 := by unfold verM; omega
  have hf := Int.emod_nonneg (x.floor : Int) (show verM x + 1 ≠ 0 by omega)
  have hf2 := Int.emod_lt_of_pos (x.floor : Int) (show 0 < verM x + 1 by omega)
  have hl : (x.gone.take 6).length ≤ 6 := by simp; omega
  have hl2 : (x.parts.take 4).length ≤ 4 := by simp; omega
  unfold validB
  simp only [Bool.and_eq_true]
  refine ⟨?_, ?_, ?_, ?_⟩
  · unfold valid1 inB madeR
    simp only [Bool.and_eq_true, decide_eq_true_eq]
    omega
  · unfold valid2 madeR
    simp only [Bool.and_eq_true, decide_eq_true_eq]
    have := goneM_len (verM x) (x.gone.take 6) (-1)
    refine ⟨by omega, ?_, by rw [partsM_len]; omega⟩
    refine decide_eq_true fun i hi => ⟨?_, fun h0 => goneM_ris _ _ _ i h0 hi⟩
    have hm := goneM_mem (verM x) (x.gone.take 6) (-1) _ (getD_mem _ 0 i hi)
    unfold inB
    simp only [Bool.and_eq_true, decide_eq_true_eq]
    omega
  · unfold valid3 madeR
    refine decide_eq_true fun i hi => ?_
    exact (goneM_mem (verM x) (x.gone.take 6) (-1) _ (getD_mem _ 0 i hi)).2.2
  · unfold valid4 madeR
    refine decide_eq_true fun i hi => ?_
    dsimp only at hi ⊢
    rw [partsM_len] at hi
    unfold PartP
    rw [partsM_at _ 0 i hi]
    obtain ⟨h1, h2⟩ := nameM_ok i (by omega)
    rw [Nat.zero_add]
    refine ⟨h1, fun h0 => ?_⟩
    rw [partsM_at _ 0 (i - 1) (by omega), Nat.zero_add]
    exact h2 h0
theorem madeR_wf (x : RawL) : RelW (madeR x) := ⟨sumB_len _, sumB_len _, fun p hp => by
  have hp : p ∈ partsM 0 (x.parts.take 4) := hp
  obtain ⟨i, hi, rfl⟩ := mem_getD _ part0 p hp
  rw [partsM_len] at hi
  rw [partsM_at _ 0 i hi]
  exact sumB_len _⟩

/-! ### Roots -/
structure RawQ where
  gen : Nat
  expiry : Nat
  keys : List UInt8
  roles : List (UInt8 × UInt8)
@[reducible] def rawRoles (l : List (UInt8 × UInt8)) : EV := .g l.length 2 fun i => [.int .u8 ((l.getD i (0, 0)).1.toNat : Int), .int .u8 ((l.getD i (0, 0)).2.toNat : Int)]
@[reducible] def RawQ.v (x : RawQ) : SV := .agg [.int .u16 (x.gen : Int), .int .u32 (x.expiry : Int), .ro (.u8 x.keys), .ro (rawRoles x.roles)]
def keysM : List (List UInt8) → List UInt8 → List (List UInt8)
  | acc, [] => acc
  | acc, k :: r => keysM (bif acc.any (fun y => decide (y = sumB k)) then acc else acc ++ [sumB k]) r
def keysF (l : List UInt8) : List (List UInt8) := bif decide ((keysM [] l).length = 0) then [List.replicate 32 0] else keysM [] l
def bitM (m : UInt8) (k : Nat) : Bool := decide (m.toNat / 2 ^ k % 2 = 1)
def rkM (m : UInt8) (n : Nat) : Nat → List Int
  | 0 => []
  | k + 1 => bif bitM m k || (decide (k + 1 = n) && decide ((rkM m n k).length = 0)) then rkM m n k ++ [(k : Int)] else rkM m n k
def nameR (i : Nat) : List UInt8 := [[114, 101, 108, 101, 97, 115, 101], [114, 111, 111, 116], [115, 101, 99, 116, 105, 111, 110, 32, 99, 111, 100, 101], [126]].getD i []
def roleM (n i : Nat) (x : UInt8 × UInt8) : RoleL := ⟨nameR i, rkM x.1 n n, 1 + ((x.2.toNat % (rkM x.1 n n).length : Nat) : Int)⟩
def rolesM (n : Nat) : Nat → List (UInt8 × UInt8) → List RoleL
  | _, [] => []
  | i, x :: r => roleM n i x :: rolesM n (i + 1) r
def rolesF (n : Nat) (l : List (UInt8 × UInt8)) : List RoleL := bif decide ((rolesM n 0 l).length = 0) then [⟨nameR 1, [0], 1⟩] else rolesM n 0 l
def madeQ (x : RawQ) : RootL := ⟨1 + (x.gen : Int), ((x.expiry % 1000000001 : Nat) : Int), keysF (x.keys.take 5), rolesF (keysF (x.keys.take 5)).length (x.roles.take 4)⟩
def Keyed (acc : List (List UInt8)) : Prop := (∀ i, i < acc.length → ∀ k, k < i → acc.getD k [] ≠ acc.getD i []) ∧ ∀ k ∈ acc, k.length = 32
theorem keysM_ok : ∀ (l : List UInt8) (acc : List (List UInt8)), Keyed acc → Keyed (keysM acc l) ∧ (keysM acc l).length ≤ acc.length + l.length
  | [], acc => fun h => ⟨h, Nat.le_refl _⟩
  | x :: r, acc => fun h => by
    unfold keysM
    cases hc : acc.any (fun y => decide (y = sumB x)) with
    | true =>
      obtain ⟨h1, h2⟩ := keysM_ok r acc h
      refine ⟨h1, ?_⟩
      simp only [cond_true, List.length_cons]
      omega
    | false =>
      have hk : Keyed (acc ++ [sumB x]) := by
        obtain ⟨h1, h2⟩ := h
        refine ⟨fun i hi k hk => ?_, fun k hk => ?_⟩
        · rw [List.length_append, List.length_singleton] at hi
          rcases Nat.lt_succ_iff_lt_or_eq.1 hi with h3 | rfl
          · have e1 : (acc ++ [sumB x]).getD k [] = acc.getD k [] := by simp [List.getD_eq_getElem?_getD, List.getElem?_append_left (show k < acc.length by omega)]
            have e2 : (acc ++ [sumB x]).getD i [] = acc.getD i [] := by simp [List.getD_eq_getElem?_getD, List.getElem?_append_left h3]
            rw [e1, e2]
            exact h1 i h3 k hk
          · have e1 : (acc ++ [sumB x]).getD k [] = acc.getD k [] := by simp [List.getD_eq_getElem?_getD, List.getElem?_append_left hk]
            have e2 : (acc ++ [sumB x]).getD acc.length [] = sumB x := by simp [List.getD_eq_getElem?_getD]
            rw [e1, e2]
            intro e
            have : acc.any (fun y => decide (y = sumB x)) = true := List.any_eq_true.2 ⟨_, getD_mem acc [] k hk, decide_eq_true e⟩
            rw [hc] at this
            cases this
        · rcases List.mem_append.1 hk with hk | hk
          · exact h2 k hk
          · rw [List.mem_singleton.1 hk]
            exact sumB_len _
      obtain ⟨h1, h2⟩ := keysM_ok r (acc ++ [sumB x]) hk
      refine ⟨h1, ?_⟩
      simp only [cond_false, List.length_cons, List.length_append, List.length_nil] at h2 ⊢
      omega
theorem keysF_ok (l : List UInt8) (hl : l.length ≤ 5) : Keyed (keysF l) ∧ 1 ≤ (keysF l).length ∧ (keysF l).length ≤ 5 := by
  obtain ⟨h1, h2⟩ := keysM_ok l [] ⟨fun i hi => absurd hi (Nat.not_lt_zero _), fun k hk => (by cases hk)⟩
  unfold keysF
  cases hc : decide ((keysM [] l).length = 0) with
  | true =>
    refine ⟨⟨fun i hi k hk => ?_, fun k hk => ?_⟩, Nat.le_refl _, by show 1 ≤ 5; omega⟩
    · have : i < 1 := hi
      omega
    · rw [List.mem_singleton.1 hk, List.length_replicate]
  | false =>
    have := of_decide_eq_false hc
    refine ⟨h1, by show 1 ≤ (keysM [] l).length; omega, ?_⟩
    show (keysM [] l).length ≤ 5
    simp only [List.length_nil] at h2
    omega
theorem rkM_mem (m : UInt8) (n : Nat) : ∀ k, ∀ x ∈ rkM m n k, 0 ≤ x ∧ x < (k : Int)
  | 0 => fun x h => by cases h
  | k + 1 => fun x h => by
    have ih := rkM_mem m n k x
    unfold rkM at h
    cases hc : bitM m k || (decide (k + 1 = n) && decide ((rkM m n k).length = 0)) with
    | true =>
      rw [hc] at h
      rcases List.mem_append.1 h with h | h
      · have := ih h; omega
      · rw [List.mem_singleton.1 h]; omega
    | false =>
      rw [hc] at h
      have := ih h; omega
theorem rkM_ris (m : UInt8) (n : Nat) : ∀ k i, 0 < i → i < (rkM m n k).length → (rkM m n k).getD (i - 1) 0 < (rkM m n k).getD i 0
  | 0 => fun i _ h => by cases h
  | k + 1 => fun i h0 h => by
    have ih := rkM_ris m n k i h0
    unfold rkM at h ⊢
    cases hc : bitM m k || (decide (k + 1 = n) && decide ((rkM m n k).length = 0)) with
    | true =>
      rw [hc] at h
      simp only [cond_true] at h ⊢
      rw [List.length_append, List.length_singleton] at h
      rcases Nat.lt_succ_iff_lt_or_eq.1 h with h3 | rfl
      · have e1 : (rkM m n k ++ [(k : Int)]).getD (i - 1) 0 = (rkM m n k).getD (i - 1) 0 := by simp [List.getD_eq_getElem?_getD, List.getElem?_append_left (show i - 1 < (rkM m n k).length by omega)]
        have e2 : (rkM m n k ++ [(k : Int)]).getD i 0 = (rkM m n k).getD i 0 := by simp [List.getD_eq_getElem?_getD, List.getElem?_append_left h3]
        rw [e1, e2]
        exact ih h3
      · have e1 : (rkM m n k ++ [(k : Int)]).getD ((rkM m n k).length - 1) 0 = (rkM m n k).getD ((rkM m n k).length - 1) 0 := by simp [List.getD_eq_getElem?_getD, List.getElem?_append_left (show (rkM m n k).length - 1 < (rkM m n k).length by omega)]
        have e2 : (rkM m n k ++ [(k : Int)]).getD (rkM m n k).length 0 = k := by simp [List.getD_eq_getElem?_getD]
        rw [e1, e2]
        exact (rkM_mem m n k _ (getD_mem _ 0 _ (by omega))).2
    | false =>
      rw [hc] at h
      exact ih h
theorem rkM_len (m : UInt8) (n : Nat) : ∀ k, (rkM m n k).length ≤ k
  | 0 => Nat.le_refl _
  | k + 1 => by
    have := rkM_len m n k
    unfold rkM
    cases bitM m k || (decide (k + 1 = n) && decide ((rkM m n k).length = 0))
    · show (rkM m n k).length ≤ k + 1
      omega
    · show (rkM m n k ++ [(k : Int)]).length ≤ k + 1
      rw [List.length_append, List.length_singleton]
      omega
theorem rkM_pos (m : UInt8) (n : Nat) (h : 0 < n) : 0 < (rkM m n n).length := by
  obtain ⟨k, rfl⟩ : ∃ k, n = k + 1 := ⟨n - 1, by omega⟩
  show 0 < (bif bitM m k || (decide (k + 1 = k + 1) && decide ((rkM m (k + 1) k).length = 0)) then rkM m (k + 1) k ++ [(k : Int)] else rkM m (k + 1) k).length
  cases hc : bitM m k || (decide (k + 1 = k + 1) && decide ((rkM m (k + 1) k).length = 0)) with
  | true => simp
  | false =>
    rw [decide_eq_true (rfl : k + 1 = k + 1), Bool.true_and, Bool.or_eq_false_iff] at hc
    have := of_decide_eq_false hc.2
    show 0 < (rkM m (k + 1) k).length
    omega
theorem rolesM_len (n : Nat) : ∀ (l : List (UInt8 × UInt8)) (i : Nat), (rolesM n i l).length = l.length
  | [], _ => rfl
  | _ :: r, i => by simp [rolesM, rolesM_len n r (i + 1)]
theorem rolesM_at (n : Nat) : ∀ (l : List (UInt8 × UInt8)) (i k : Nat), k < l.length → (rolesM n i l).getD k role0 = roleM n (i + k) (l.getD k (0, 0))
  | [], _, _ => fun h => by cases h
  | x :: r, i, k => fun h => by
    cases k with
    | zero => rfl
    | succ k =>
      have := rolesM_at n r (i + 1) k (by simpa using h)
      simp only [rolesM, List.getD_cons_succ]
      rw [this, show i + 1 + k = i + (k + 1) by omega]
theorem nameR_ok : ∀ i : Nat, i < 4 → plainB (nameR i) = true ∧ (0 < i → Op.bytesLess (nameR (i - 1)) (nameR i) = true) := by
  intro i hi
  rcases i with _ | _ | _ | _ | i
  · exact ⟨by decide +kernel, fun h => absurd h (by omega)⟩
  · exact ⟨by decide +kernel, fun _ => by decide +kernel⟩
  · exact ⟨by decide +kernel, fun _ => by decide +kernel⟩
  · exact ⟨by decide +kernel, fun _ => by decide +kernel⟩
  · omega
theorem madeQ_valid (x : RawQ) (hg : x.gen < 65536) : rootB (madeQ x) = true := by
  have he := Nat.mod_lt x.expiry (show 1000000001 > 0 by decide)
  have hl : (x.keys.take 5).length ≤ 5 := by simp; omega
  have hl2 : (x.roles.take 4).length ≤ 4 := by simp; omega
  obtain ⟨⟨k1, k2⟩, k3, k4⟩ := keysF_ok (x.keys.take 5) hl
  unfold rootB madeQ
  generalize keysF (x.keys.take 5) = ks at k1 k2 k3 k4
  generalize x.roles.take 4 = rs at hl2
  have hrl : 1 ≤ (rolesF ks.length rs).length ∧ (rolesF ks.length rs).length ≤ 4 := by
    unfold rolesF
    cases hc : decide ((rolesM ks.length 0 rs).length = 0) with
    | true => exact ⟨Nat.le_refl _, by show 1 ≤ 4; omega⟩
    | false =>
      have := of_decide_eq_false hc
      rw [rolesM_len] at this
      exact ⟨by show 1 ≤ (rolesM ks.length 0 rs).length; rw [rolesM_len]; omega, by show (rolesM ks.length 0 rs).length ≤ 4; rw [rolesM_len]; omega⟩
  simp only [Bool.and_eq_true]
  refine ⟨?_, ?_, ?_⟩
  · unfold root1 inB
    simp only [Bool.and_eq_true, decide_eq_true_eq]
    omega
  · exact decide_eq_true k1
  · refine decide_eq_true fun i hi => ?_
    dsimp only at hi ⊢
    unfold rolesF at hi ⊢
    cases hc : decide ((rolesM ks.length 0 rs).length = 0) with
    | true =>
      rw [hc] at hi
      have hi : i < 1 := hi
      obtain rfl : i = 0 := by omega
      refine ⟨(show plainB (nameR 1) = true by decide +kernel), fun h => absurd h (by omega), fun h => (by cases h), ?_, (show inB 1 1 1 = true by decide +kernel)⟩
      refine decide_eq_true fun j hj => ?_
      have hj : j < 1 := hj
      obtain rfl : j = 0 := by omega
      refine ⟨?_, fun h => absurd h (by omega)⟩
      show inB 0 0 ((ks.length : Int) - 1) = true
      unfold inB
      simp only [Bool.and_eq_true, decide_eq_true_eq]
      omega
    | false =>
      rw [hc] at hi
      have hi : i < (rolesM ks.length 0 rs).length := hi
      show RoleP ks.length (rolesM ks.length 0 rs) i
      rw [rolesM_len] at hi
      unfold RoleP
      rw [rolesM_at _ _ 0 i hi, Nat.zero_add]
      obtain ⟨h1, h2⟩ := nameR_ok i (by omega)
      have hp := rkM_pos (rs.getD i (0, 0)).1 ks.length (by omega)
      have hm := Nat.mod_lt (rs.getD i (0, 0)).2.toNat hp
      refine ⟨h1, fun h0 => ?_, ?_, ?_, ?_⟩
      · rw [rolesM_at _ _ 0 (i - 1) (by omega), Nat.zero_add]
        exact h2 h0
      · show (rkM (rs.getD i (0, 0)).1 ks.length ks.length).length ≠ 0
        omega
      · refine decide_eq_true fun j hj => ⟨?_, fun h0 => rkM_ris _ _ _ j h0 hj⟩
        have := rkM_mem (rs.getD i (0, 0)).1 ks.length ks.length _ (getD_mem _ 0 j hj)
        unfold inB
        simp only [Bool.and_eq_true, decide_eq_true_eq]
        show 0 ≤ (rkM (rs.getD i (0, 0)).1 ks.length ks.length).getD j 0 ∧ (rkM (rs.getD i (0, 0)).1 ks.length ks.length).getD j 0 ≤ (ks.length : Int) - 1
        omega
      · unfold inB roleM
        simp only [Bool.and_eq_true, decide_eq_true_eq]
        omega
theorem madeQ_wf (x : RawQ) : RootW (madeQ x) := ⟨(keysF_ok (x.keys.take 5) (by simp; omega)).1.2⟩
end Go.Proofs.YtegbdcadlmefgaaDoor
end
section
namespace Go.Proofs.YtegbdcadlmefgaaDoor
open Go.RowKit V
--PURE: (intro _ _; simp [pureL, pureS, pureE]; done)
set_option maxRecDepth 100000
set_option maxHeartbeats 4000000
set_option linter.unusedSimpArgs false
attribute [local irreducible] V.Sat V.DSat
theorem drop_step {α : Type} (l : List α) (d : α) (n i : Nat) (hi : i < n) (hl : i < l.length) : (l.take n).drop i = l.getD i d :: (l.take n).drop (i + 1) := by
  have h : i < (l.take n).length := by rw [List.length_take]; omega
  rw [List.drop_eq_getElem_cons h, List.getElem_take, List.getD_eq_getElem?_getD, List.getElem?_eq_getElem hl]
  rfl
theorem drop_end {α : Type} (l : List α) (n i : Nat) (h : n ≤ i ∨ l.length ≤ i) : (l.take n).drop i = [] := List.drop_eq_nil_of_le (by rw [List.length_take]; omega)
theorem made_walk (x : RawL) (hv0 : x.version < 65536) : Fun Tryd.prog [] 21 [x.v] (madeR x).v := by
  have hvl := madeR_wf x
  obtain ⟨v, fl, ex, sz, s0, s1, go, pa⟩ := x
  show Fun Tryd.prog [] 21 [.agg [.int .u16 (v : Int), .int .u16 (fl : Int), .int .u32 (ex : Int), .int .u32 (sz : Int), .int .u8 (s0.toNat : Int), .int .u8 (s1.toNat : Int), .ro (.u8 go), .ro (.u8 pa)]] _
  have g0 := s0.toNat_lt
  refine Fun.mkF 7 Tryd.func21 rfl Tryd.ntmps21 rfl rfl fun hf T w0 => ?_
  repeat' (first
      | ((with_reducible apply Sat.run (X := X64)); exact rfl; (first | exact True.intro | (exact phi) | skip))
      | ((with_reducible apply Sat.drawn); kernel_rfl)
      | ((with_reducible apply DSat.run (X := X64)); exact rfl; (first | exact True.intro | (exact phi) | skip))
      | ((with_reducible apply DSat.fin); kernel_rfl)
      | ((with_reducible apply Sat.cond_t); exact rfl)
      | ((with_reducible apply Sat.cond_f); exact rfl)
      | ((with_reducible apply Sat.cond_pt); exact rfl; (try dsimp only [V.EV.sub, V.EV.len]); first | assumption | omega)
      | ((with_reducible apply Sat.cond_pf); exact rfl; (try dsimp only [V.EV.sub, V.EV.len]); first | assumption | omega)
      | ((with_reducible apply Sat.cond_p); exact rfl; all_goals intro h)
      | ((with_reducible apply Sat.cond); exact rfl; all_goals intro h)
      | ((with_reducible apply Sat.callR (sumB_spec _)); exact rfl; exact rfl; exact rfl; kernel_rfl; (exact cnvX); exact rfl)
      | ((with_reducible apply DSat.callR (sumB_spec _)); exact rfl; exact rfl; exact rfl; kernel_rfl; (exact cnvX); exact rfl) | fail)
  have hM : madeR ⟨v, fl, ex, sz, s0, s1, go, pa⟩ = ⟨1 + (v : Int) % 60000, (fl : Int) % (1 + (v : Int) % 60000 + 1), (ex : Int) % 1000000001, (sz : Int) % 65537, sumB s0, 1 + (s0.toNat : Int), sumB s1, goneM (1 + (v : Int) % 60000) (-1) (go.take 6), partsM 0 (pa.take 4)⟩ := rfl
  rw [hM]
  have hver : 0 ≤ 1 + (v : Int) % 60000 ∧ 1 + (v : Int) % 60000 ≤ 60000 := by omega
  generalize 1 + (v : Int) % 60000 = ver at hver ⊢
  generalize (fl : Int) % (ver + 1) = flo
  generalize (ex : Int) % 1000000001 = ex0
  generalize (sz : Int) % 65537 = sz0
  generalize 1 + (s0.toNat : Int) = ch
  generalize sumB s0 = im
  generalize sumB s1 = tr
  apply Sat.loop (α := Nat × Int × List Int) (fun x => x.1 ≤ 6 ∧ x.1 ≤ go.length ∧ -1 ≤ x.2.1 ∧ x.2.1 ≤ 256 * (x.1 : Int) ∧ x.2.2.length ≤ x.1 ∧ goneM ver (-1) (go.take 6) = x.2.2 ++ goneM ver x.2.1 ((go.take 6).drop x.1)) (fun x => 6 - x.1) (0, -1, []) (fun x => [(4, .int .i64 x.2.1), (5, .int .i64 (x.1 : Int))]) (fun x => [(2, .cells 27 [.int .i64 ver, .int .i64 flo, .int .i64 ex0, .int .i64 sz0, .arr 32 (.u8 im), .int .i64 ch, .arr 32 (.u8 tr), .row 3 0 1 0 x.2.2.length, .nils]), (3, .row 3 (.ints .i64 x.2.2))]) [] [(3, none)] 1
  · intro x; exact rfl
  · intro x; exact rfl
  · exact rfl
  · exact rfl
  · (repeat' (first | exact AllP.nil | with_reducible refine AllP.cons ?_ ?_)) <;> first | with_reducible exact rfl | exact rfl | exact trivial | (intro _ _; simp [pureL, pureS, pureE]; done) | exact ⟨rfl, rfl, rfl, rfl⟩
  · exact ⟨Nat.zero_le _, Nat.zero_le _, Int.le_refl _, by show (-1 : Int) ≤ 256 * ((0 : Nat) : Int); omega, Nat.le_refl _, rfl⟩
  · rintro ⟨i, p, acc⟩ ⟨x0, x1, x2, x3, x4, x5⟩
    dsimp only at x0 x1 x2 x3 x4 x5 ⊢
    have hg := (go.getD ((i : Int).toNat) 0).toNat_lt
    repeat' (first
        | ((with_reducible apply Sat.run (X := X64)); exact rfl; (first | exact True.intro | (exact phi) | skip))
        | ((with_reducible apply Sat.drawn); kernel_rfl)
        | ((with_reducible apply DSat.run (X := X64)); exact rfl; (first | exact True.intro | (exact phi) | skip))
        | ((with_reducible apply DSat.fin); kernel_rfl)
        | ((with_reducible apply Sat.cond_t); exact rfl)
        | ((with_reducible apply Sat.cond_f); exact rfl)
        | ((with_reducible apply Sat.cond_pt); exact rfl; (try dsimp only [V.EV.sub, V.EV.len]); first | assumption | omega)
        | ((with_reducible apply Sat.cond_pf); exact rfl; (try dsimp only [V.EV.sub, V.EV.len]); first | assumption | omega)
        | ((with_reducible apply Sat.cond_p); exact rfl; all_goals (intro h; (try simp only [V.EV.sub, V.EV.len] at h)))
        | ((with_reducible apply Sat.cond); exact rfl; all_goals (intro h; (try simp only [V.EV.sub, V.EV.len, Bool.cond_true_left, Bool.cond_false_right, Bool.or_eq_true, Bool.and_eq_true, Bool.or_eq_false_iff, Bool.and_eq_false_iff, Bool.not_eq_true', Bool.not_eq_false', decide_eq_true_eq, decide_eq_false_iff_not, ne_eq] at h))) | fail)
    · rename_i h'
      obtain ⟨h5, h6⟩ := h'
      have h5 := of_decide_eq_true h5
      refine Sat.back (i + 1, (p + (1 + ((go.getD ((i : Int).toNat) 0).toNat : Int))), acc ++ [(p + (1 + ((go.getD ((i : Int).toNat) 0).toNat : Int)))]) [(3, some 5)] rfl ?_ ?_ ?_
      · (repeat' (first | exact AllP.nil | with_reducible refine AllP.cons ?_ ?_)) <;> first | with_reducible exact rfl | exact Int.natCast_add_one _ | (show _ = (acc ++ [(p + (1 + ((go.getD ((i : Int).toNat) 0).toNat : Int)))]).length; simp [EV.len, EV.sub]; done) | (refine ⟨rfl, rfl, rfl, ?_⟩; show _ = (acc ++ [(p + (1 + ((go.getD ((i : Int).toNat) 0).toNat : Int)))]).length; simp [EV.len, EV.sub]; done) | exact rfl | exact trivial | (intro _ _; simp [pureL, pureS, pureE]; done) | exact ⟨rfl, rfl, rfl, rfl⟩
      · refine ⟨by dsimp only; omega, by dsimp only; omega, by dsimp only; omega, by dsimp only; omega, by simp only [List.length_append, List.length_cons, List.length_nil]; omega, ?_⟩
        dsimp only
        rw [x5, drop_step go 0 6 i (by omega) (by omega)]
        rw [Int.toNat_natCast] at h ⊢
        conv => lhs; rw [goneM, if_neg h]
        simp only [List.append_assoc, List.cons_append, List.nil_append]
      · dsimp only; omega
    · rename_i h'
      obtain ⟨h5, h6⟩ := h'
      have h5 := of_decide_eq_true h5
      have h := Decidable.of_not_not h
      refine Sat.back (i + 1, (p + (1 + ((go.getD ((i : Int).toNat) 0).toNat : Int))), acc) [(3, some 3)] rfl ?_ ?_ ?_
      · (repeat' (first | exact AllP.nil | with_reducible refine AllP.cons ?_ ?_)) <;> first | with_reducible exact rfl | exact Int.natCast_add_one _ | exact rfl | exact trivial | (intro _ _; simp [pureL, pureS, pureE]; done) | exact ⟨rfl, rfl, rfl, rfl⟩
      · refine ⟨by dsimp only; omega, by dsimp only; omega, by dsimp only; omega, by dsimp only; omega, by dsimp only; omega, ?_⟩
        dsimp only
        rw [x5, drop_step go 0 6 i (by omega) (by omega)]
        rw [Int.toNat_natCast] at h ⊢
        conv => lhs; rw [goneM, if_pos h]
      · dsimp only; omega
    · have he : 6 ≤ i ∨ go.length ≤ i := by
        rcases h with h | h
        · have := of_decide_eq_false h; omega
        · omega
      rw [drop_end go 6 i he] at x5
      have x6 : goneM ver (-1) (go.take 6) = acc := by rw [x5]; exact List.append_nil _
      rw [x6]
      clear h he x5 x6
      apply Sat.loop (α := Nat × List PartL) (fun x => x.1 ≤ 4 ∧ x.1 ≤ pa.length ∧ x.2.length = x.1 ∧ partsM 0 (pa.take 4) = x.2 ++ partsM x.1 ((pa.take 4).drop x.1)) (fun x => 4 - x.1) (0, []) (fun x => [(6, .int .i64 (x.1 : Int))]) (fun x => [(2, .cells 27 [.int .i64 ver, .int .i64 flo, .int .i64 ex0, .int .i64 sz0, .arr 32 (.u8 im), .int .i64 ch, .arr 32 (.u8 tr), .row 3 0 1 0 acc.length, .row 4 0 33 0 x.2.length]), (4, .row 66 (partsE x.2))]) [] [(4, none)] 1
      · intro x; exact rfl
      · intro x; exact rfl
      · exact rfl
      · exact rfl
      · (repeat' (first | exact AllP.nil | with_reducible refine AllP.cons ?_ ?_)) <;> first | with_reducible exact rfl | exact rfl | exact trivial | (intro _ _; simp [pureL, pureS, pureE]; done) | exact ⟨rfl, rfl, rfl, rfl⟩
      · exact ⟨Nat.zero_le _, Nat.zero_le _, rfl, rfl⟩
      · rintro ⟨j, ps⟩ ⟨y0, y1, y2, y3⟩
        dsimp only at y0 y1 y2 y3 ⊢
        by_cases hj : j < 4 ∧ j < pa.length
        · obtain ⟨hj4, hjl⟩ := hj
          have hq : decide ((j : Int) < ((EV.u8 pa).len : Int)) = true := decide_eq_true (by show (j : Int) < (pa.length : Int); omega)
          obtain rfl | rfl | rfl | rfl : j = 0 ∨ j = 1 ∨ j = 2 ∨ j = 3 := by omega
          repeat' (first
              | ((with_reducible apply Sat.run (X := X64)); exact rfl; (first | exact True.intro | (exact phi) | skip))
              | ((with_reducible apply Sat.drawn); kernel_rfl)
              | ((with_reducible apply DSat.run (X := X64)); exact rfl; (first | exact True.intro | (exact phi) | skip))
              | ((with_reducible apply DSat.fin); kernel_rfl)
              | ((with_reducible apply Sat.cond_t); exact rfl)
              | ((with_reducible apply Sat.cond_f); exact rfl)
              | ((with_reducible apply Sat.cond_pt); exact rfl; (try dsimp only [V.EV.sub, V.EV.len]); first | assumption | omega)
              | ((with_reducible apply Sat.cond_pf); exact rfl; (try dsimp only [V.EV.sub, V.EV.len]); first | assumption | omega)
              | ((with_reducible apply Sat.cond_p); exact rfl; all_goals intro h)
              | ((with_reducible apply Sat.cond); exact rfl; all_goals intro h)
              | ((with_reducible apply Sat.callR (sumB_spec _)); exact rfl; exact rfl; exact rfl; kernel_rfl; (exact cnvX); exact rfl)
              | ((with_reducible apply DSat.callR (sumB_spec _)); exact rfl; exact rfl; exact rfl; kernel_rfl; (exact cnvX); exact rfl) | fail)
          all_goals first | (exfalso; rw [hq] at h; exact absurd h (by decide)) | skip
          · refine Sat.back (1, ps ++ [(⟨[65], sumB (pa.getD 0 0)⟩ : PartL)]) [(4, some 7)] rfl ?_ ?_ ?_
            · (repeat' (first | exact AllP.nil | with_reducible refine AllP.cons ?_ ?_)) <;> first | with_reducible exact rfl | exact Int.natCast_add_one _ | (show ps.length + 1 = (ps ++ [(⟨[65], sumB (pa.getD 0 0)⟩ : PartL)]).length; simp; done) | exact parts_pure ps (⟨[65], sumB (pa.getD 0 0)⟩ : PartL) | (intro i hi; exact parts_snoc ps (⟨[65], sumB (pa.getD 0 0)⟩ : PartL) i hi) | (show _ = (ps ++ [(⟨[65], sumB (pa.getD 0 0)⟩ : PartL)]).length; simp [EV.len, EV.sub]; done) | (refine ⟨rfl, rfl, rfl, ?_⟩; show _ = (ps ++ [(⟨[65], sumB (pa.getD 0 0)⟩ : PartL)]).length; simp [EV.len, EV.sub]; done) | exact rfl | exact trivial | (intro _ _; simp [pureL, pureS, pureE]; done) | exact ⟨rfl, rfl, rfl, rfl⟩
            · refine ⟨by dsimp only; omega, by dsimp only; omega, by simp only [List.length_append, List.length_cons, List.length_nil]; omega, ?_⟩
              dsimp only
              rw [y3, drop_step pa 0 4 0 (by omega) (by omega)]
              conv => lhs; rw [partsM]
              simp only [List.append_assoc, List.cons_append, List.nil_append]
              rfl
            · dsimp only; omega
          · refine Sat.back (2, ps ++ [(⟨[98, 111, 111, 116], sumB (pa.getD 1 0)⟩ : PartL)]) [(4, some 7)] rfl ?_ ?_ ?_
            · (repeat' (first | exact AllP.nil | with_reducible refine AllP.cons ?_ ?_)) <;> first | with_reducible exact rfl | exact Int.natCast_add_one _ | (show ps.length + 1 = (ps ++ [(⟨[98, 111, 111, 116], sumB (pa.getD 1 0)⟩ : PartL)]).length; simp; done) | exact parts_pure ps (⟨[98, 111, 111, 116], sumB (pa.getD 1 0)⟩ : PartL) | (intro i hi; exact parts_snoc ps (⟨[98, 111, 111, 116], sumB (pa.getD 1 0)⟩ : PartL) i hi) | (show _ = (ps ++ [(⟨[98, 111, 111, 116], sumB (pa.getD 1 0)⟩ : PartL)]).length; simp [EV.len, EV.sub]; done) | (refine ⟨rfl, rfl, rfl, ?_⟩; show _ = (ps ++ [(⟨[98, 111, 111, 116], sumB (pa.getD 1 0)⟩ : PartL)]).length; simp [EV.len, EV.sub]; done) | exact rfl | exact trivial | (intro _ _; simp [pureL, pureS, pureE]; done) | exact ⟨rfl, rfl, rfl, rfl⟩
            · refine ⟨by dsimp only; omega, by dsimp only; omega, by simp only [List.length_append, List.length_cons, List.length_nil]; omega, ?_⟩
              dsimp only
              rw [y3, drop_step pa 0 4 1 (by omega) (by omega)]
              conv => lhs; rw [partsM]
              simp only [List.append_assoc, List.cons_append, List.nil_append]
              rfl
            · dsimp only; omega
          · refine Sat.back (3, ps ++ [(⟨[99, 111, 100, 101, 50], sumB (pa.getD 2 0)⟩ : PartL)]) [(4, some 7)] rfl ?_ ?_ ?_
            · (repeat' (first | exact AllP.nil | with_reducible refine AllP.cons ?_ ?_)) <;> first | with_reducible exact rfl | exact Int.natCast_add_one _ | (show ps.length + 1 = (ps ++ [(⟨[99, 111, 100, 101, 50], sumB (pa.getD 2 0)⟩ : PartL)]).length; simp; done) | exact parts_pure ps (⟨[99, 111, 100, 101, 50], sumB (pa.getD 2 0)⟩ : PartL) | (intro i hi; exact parts_snoc ps (⟨[99, 111, 100, 101, 50], sumB (pa.getD 2 0)⟩ : PartL) i hi) | (show _ = (ps ++ [(⟨[99, 111, 100, 101, 50], sumB (pa.getD 2 0)⟩ : PartL)]).length; simp [EV.len, EV.sub]; done) | (refine ⟨rfl, rfl, rfl, ?_⟩; show _ = (ps ++ [(⟨[99, 111, 100, 101, 50], sumB (pa.getD 2 0)⟩ : PartL)]).length; simp [EV.len, EV.sub]; done) | exact rfl | exact trivial | (intro _ _; simp [pureL, pureS, pureE]; done) | exact ⟨rfl, rfl, rfl, rfl⟩
            · refine ⟨by dsimp only; omega, by dsimp only; omega, by simp only [List.length_append, List.length_cons, List.length_nil]; omega, ?_⟩
              dsimp only
              rw [y3, drop_step pa 0 4 2 (by omega) (by omega)]
              conv => lhs; rw [partsM]
              simp only [List.append_assoc, List.cons_append, List.nil_append]
              rfl
            · dsimp only; omega
          · refine Sat.back (4, ps ++ [(⟨[122], sumB (pa.getD 3 0)⟩ : PartL)]) [(4, some 7)] rfl ?_ ?_ ?_
            · (repeat' (first | exact AllP.nil | with_reducible refine AllP.cons ?_ ?_)) <;> first | with_reducible exact rfl | exact Int.natCast_add_one _ | (show ps.length + 1 = (ps ++ [(⟨[122], sumB (pa.getD 3 0)⟩ : PartL)]).length; simp; done) | exact parts_pure ps (⟨[122], sumB (pa.getD 3 0)⟩ : PartL) | (intro i hi; exact parts_snoc ps (⟨[122], sumB (pa.getD 3 0)⟩ : PartL) i hi) | (show _ = (ps ++ [(⟨[122], sumB (pa.getD 3 0)⟩ : PartL)]).length; simp [EV.len, EV.sub]; done) | (refine ⟨rfl, rfl, rfl, ?_⟩; show _ = (ps ++ [(⟨[122], sumB (pa.getD 3 0)⟩ : PartL)]).length; simp [EV.len, EV.sub]; done) | exact rfl | exact trivial | (intro _ _; simp [pureL, pureS, pureE]; done) | exact ⟨rfl, rfl, rfl, rfl⟩
            · refine ⟨by dsimp only; omega, by dsimp only; omega, by simp only [List.length_append, List.length_cons, List.length_nil]; omega, ?_⟩
              dsimp only
              rw [y3, drop_step pa 0 4 3 (by omega) (by omega)]
              conv => lhs; rw [partsM]
              simp only [List.append_assoc, List.cons_append, List.nil_append]
              rfl
            · dsimp only; omega
        · have he : 4 ≤ j ∨ pa.length ≤ j := by omega
          rw [drop_end pa 4 j he] at y3
          have y4 : partsM 0 (pa.take 4) = ps := by rw [y3]; exact List.append_nil _
          rw [y4]
          have hq : (bif decide ((j : Int) < ((EV.u8 pa).len : Int)) then decide ((j : Int) < 4) else false) = false := by
            rcases he with he | he
            · rw [decide_eq_false (show ¬ (j : Int) < 4 by omega)]; cases decide ((j : Int) < ((EV.u8 pa).len : Int)) <;> rfl
            · rw [decide_eq_false (show ¬ (j : Int) < ((EV.u8 pa).len : Int) by show ¬ (j : Int) < (pa.length : Int); omega)]; rfl
          repeat' (first
              | ((with_reducible apply Sat.run (X := X64)); exact rfl; (first | exact True.intro | (exact phi) | skip))
              | ((with_reducible apply Sat.drawn); kernel_rfl)
              | ((with_reducible apply DSat.run (X := X64)); exact rfl; (first | exact True.intro | (exact phi) | skip))
              | ((with_reducible apply DSat.fin); kernel_rfl) | fail)
          with_reducible apply Sat.cond
          · exact rfl
          · intro h
            exfalso
            rw [hq] at h
            cases h
          intro h
          refine Sat.runN (X := X64) 6 rfl True.intro ?_
          refine Sat.enter ?_
          refine Sat.freezeR true 3 rfl ?_ ?_
          · (repeat' (first | exact AllP.nil | with_reducible refine AllP.cons ?_ ?_)) <;> first | exact rfl | exact trivial | exact .inl ⟨rfl, rfl, rfl⟩ | (intro _ _; simp [pureL, pureS, pureE]; done) | (intro _ _; exact rfl) | (intro _; exact rfl) | (intro _; exact trivial) | (intro _; exact .inl ⟨rfl, rfl, rfl⟩) | (intro _ _ _; simp [pureL, pureS, pureE]; done) | exact ⟨rfl, rfl, rfl, rfl⟩ | (intro _; exact ⟨rfl, rfl, rfl, rfl⟩)
          refine Sat.freezeR true 4 rfl ?_ ?_
          · (repeat' (first | exact AllP.nil | with_reducible refine AllP.cons ?_ ?_)) <;> first | exact rfl | exact trivial | exact .inl ⟨rfl, rfl, rfl⟩ | (intro _ _; simp [pureL, pureS, pureE]; done) | (intro _ _; exact rfl) | (intro _; exact rfl) | (intro _; exact trivial) | (intro _; exact .inl ⟨rfl, rfl, rfl⟩) | (intro _ _ _; simp [pureL, pureS, pureE]; done) | exact ⟨rfl, rfl, rfl, rfl⟩ | (intro _; exact ⟨rfl, rfl, rfl, rfl⟩)
          repeat' (first
              | ((with_reducible apply Sat.run (X := X64)); exact rfl; (first | exact True.intro | (exact phi) | skip))
              | ((with_reducible apply Sat.drawn); kernel_rfl)
              | ((with_reducible apply DSat.run (X := X64)); exact rfl; (first | exact True.intro | (exact phi) | skip))
              | ((with_reducible apply DSat.fin); kernel_rfl)
              | ((with_reducible apply Sat.cond_t); exact rfl)
              | ((with_reducible apply Sat.cond_f); exact rfl)
              | ((with_reducible apply Sat.cond_pt); exact rfl; (try dsimp only [V.EV.sub, V.EV.len]); first | assumption | omega)
              | ((with_reducible apply Sat.cond_pf); exact rfl; (try dsimp only [V.EV.sub, V.EV.len]); first | assumption | omega)
              | ((with_reducible apply Sat.cond_p); exact rfl; all_goals intro h)
              | ((with_reducible apply Sat.cond); exact rfl; all_goals intro h) | fail)
          (refine Sat.fin (Sat.end1 rfl rfl rfl True.intro (.refl _ purX) (by first | exact .inl rfl | exact .inr rfl) (fun _ h => h)) ?_; rfl)
end Go.Proofs.YtegbdcadlmefgaaDoor
end
section
namespace Go.Proofs.YtegbdcadlmefgaaDoor
open Go.RowKit V
--PURE: (intro _ _; simp [pureL, pureS, pureE]; done)
set_option maxRecDepth 100000
set_option maxHeartbeats 4000000
set_option linter.unusedSimpArgs false
attribute [local irreducible] V.Sat V.DSat
theorem any_take (l : List (List UInt8)) (f : List UInt8 → Bool) (k : Nat) (hk : k < l.length) : (l.take (k + 1)).any f = bif (l.take k).any f then true else f (l.getD k []) := by
  rw [List.take_add_one, List.any_append, List.getD_eq_getElem?_getD, List.getElem?_eq_getElem hk]
  cases (l.take k).any f <;> simp
theorem bit_val (m : UInt8) (k : Nat) : decide (IntKind.u8.wrap ((BitVec.ofInt IntKind.u8.bits ((m.toNat : Int).fdiv (2 ^ min ((k : Int).toNat) IntKind.u8.bits)) &&& BitVec.ofInt IntKind.u8.bits 1).toNat : Int) = 1) = bitM m k := by
  have h1 := band_mask .u8 ((m.toNat : Int).fdiv (2 ^ min ((k : Int).toNat) IntKind.u8.bits)) 1 (by decide)
  have h2 : (2 : Int) ^ 1 - 1 = 1 := by decide
  rw [h2] at h1
  rw [h1, Int.toNat_natCast]
  unfold bitM
  have hm := m.toNat_lt
  have h3 : (m.toNat : Int).fdiv (2 ^ min k IntKind.u8.bits) = ((m.toNat / 2 ^ k : Nat) : Int) := by
    rw [Int.fdiv_eq_ediv_of_nonneg _ (Int.pow_nonneg (by decide))]
    rcases Nat.le_total k 8 with hk | hk
    · rw [Nat.min_eq_left (show k ≤ IntKind.u8.bits from hk)]
      simp
    · rw [Nat.min_eq_right (show IntKind.u8.bits ≤ k from hk)]
      have e1 : m.toNat / 2 ^ k = 0 := Nat.div_eq_of_lt (Nat.lt_of_lt_of_le hm (Nat.pow_le_pow_right (by decide) hk))
      rw [e1]
      show (m.toNat : Int) / 2 ^ 8 = ((0 : Nat) : Int)
      omega
  rw [h3]
  apply decide_eq_decide.2
  omega
theorem cond_val (m : UInt8) (k n L : Nat) : (bif decide (IntKind.u8.wrap ((BitVec.ofInt IntKind.u8.bits ((m.toNat : Int).fdiv (2 ^ min ((k : Int).toNat) IntKind.u8.bits)) &&& BitVec.ofInt IntKind.u8.bits 1).toNat : Int) = 1) then true else bif decide ((k : Int) = (n : Int) - 1) then decide ((L : Int) = 0) else false) = (bitM m k || (decide (k + 1 = n) && decide (L = 0))) := by
  rw [bit_val, show decide ((k : Int) = (n : Int) - 1) = decide (k + 1 = n) from decide_eq_decide.2 (by omega), show decide ((L : Int) = 0) = decide (L = 0) from decide_eq_decide.2 (by omega)]
  cases bitM m k <;> cases decide (k + 1 = n) <;> rfl
theorem madeRoot_walk (x : RawQ) : Fun Tryd.prog [] 22 [x.v] (madeQ x).v := by
  obtain ⟨g, ex, kl, rl⟩ := x
  show Fun Tryd.prog [] 22 [.agg [.int .u16 (g : Int), .int .u32 (ex : Int), .ro (.u8 kl), .ro (rawRoles rl)]] _
  have hM : madeQ ⟨g, ex, kl, rl⟩ = ⟨1 + (g : Int), (ex : Int) % 1000000001, keysF (kl.take 5), rolesF (keysF (kl.take 5)).length (rl.take 4)⟩ := rfl
  rw [hM]
  refine Fun.mkF 8 Tryd.func22 rfl Tryd.ntmps22 rfl rfl fun hf T w0 => ?_
  have hgb := u16_iff hf.1.1
  repeat' (first
      | ((with_reducible apply Sat.run (X := X64)); exact rfl; (first | exact True.intro | (exact phi) | skip))
      | ((with_reducible apply Sat.drawn); kernel_rfl)
      | ((with_reducible apply DSat.run (X := X64)); exact rfl; (first | exact True.intro | (exact phi) | skip))
      | ((with_reducible apply DSat.fin); kernel_rfl)
      | ((with_reducible apply Sat.cond_t); exact rfl)
      | ((with_reducible apply Sat.cond_f); exact rfl)
      | ((with_reducible apply Sat.cond_pt); exact rfl; (try dsimp only [V.EV.sub, V.EV.len]); first | assumption | omega)
      | ((with_reducible apply Sat.cond_pf); exact rfl; (try dsimp only [V.EV.sub, V.EV.len]); first | assumption | omega)
      | ((with_reducible apply Sat.cond_p); exact rfl; all_goals intro h)
      | ((with_reducible apply Sat.cond); exact rfl; all_goals intro h) | fail)
  generalize 1 + (g : Int) = gen
  generalize (ex : Int) % 1000000001 = exp
  apply Sat.loop (α := Nat × List (List UInt8)) (fun x => x.1 ≤ 5 ∧ x.1 ≤ kl.length ∧ x.2.length ≤ x.1 ∧ keysM [] (kl.take 5) = keysM x.2 ((kl.take 5).drop x.1)) (fun x => 5 - x.1) (0, []) (fun x => [(4, .int .i64 (x.1 : Int))]) (fun x => [(2, .cells 31 [.int .i64 gen, .int .i64 exp, .row 3 0 32 0 x.2.length, .nils]), (3, .row 23 (keysE x.2))]) [] [(3, none)] 1
  · intro x; exact rfl
  · intro x; exact rfl
  · exact rfl
  · exact rfl
  · (repeat' (first | exact AllP.nil | with_reducible refine AllP.cons ?_ ?_)) <;> first | with_reducible exact rfl | exact rfl | exact trivial | (intro _ _; simp [pureL, pureS, pureE]; done) | exact ⟨rfl, rfl, rfl, rfl⟩
  · exact ⟨Nat.zero_le _, Nat.zero_le _, Nat.le_refl _, rfl⟩
  · rintro ⟨i, acc⟩ ⟨x0, x1, x2, x3⟩
    dsimp only at x0 x1 x2 x3 ⊢
    repeat' (first
        | ((with_reducible apply Sat.run (X := X64)); exact rfl; (first | exact True.intro | (exact phi) | skip))
        | ((with_reducible apply Sat.drawn); kernel_rfl)
        | ((with_reducible apply DSat.run (X := X64)); exact rfl; (first | exact True.intro | (exact phi) | skip))
        | ((with_reducible apply DSat.fin); kernel_rfl)
        | ((with_reducible apply Sat.cond_t); exact rfl)
        | ((with_reducible apply Sat.cond_f); exact rfl)
        | ((with_reducible apply Sat.cond_pt); exact rfl; (try dsimp only [V.EV.sub, V.EV.len]); first | assumption | omega)
        | ((with_reducible apply Sat.cond_pf); exact rfl; (try dsimp only [V.EV.sub, V.EV.len]); first | assumption | omega)
        | ((with_reducible apply Sat.cond_p); exact rfl; all_goals (intro h; (try simp only [V.EV.sub, V.EV.len] at h)))
        | ((with_reducible apply Sat.cond); exact rfl; all_goals (intro h; (try simp only [V.EV.sub, V.EV.len, Bool.cond_true_left, Bool.cond_false_right, Bool.or_eq_true, Bool.and_eq_true, Bool.or_eq_false_iff, Bool.and_eq_false_iff, Bool.not_eq_true', Bool.not_eq_false', decide_eq_true_eq, decide_eq_false_iff_not, ne_eq] at h))) | fail)
    · obtain ⟨h5, h6⟩ := h
      have h5 := of_decide_eq_true h5
      apply Sat.loop (α := Nat) (fun x => x ≤ acc.length) (fun x => acc.length - x) 0 (fun x => [(5, .bool ((acc.take x).any fun y => decide (y = (sumB (kl.getD ((i : Int).toNat) 0))))), (6, .int .i64 (x : Int))]) (fun x => []) [] [] 0
      · intro x; exact rfl
      · intro x; exact rfl
      · exact rfl
      · exact rfl
      · (repeat' (first | exact AllP.nil | with_reducible refine AllP.cons ?_ ?_)) <;> first | with_reducible exact rfl | exact rfl | exact trivial | (intro _ _; simp [pureL, pureS, pureE]; done) | exact ⟨rfl, rfl, rfl, rfl⟩
      · exact Nat.zero_le _
      · intro k hk
        repeat' (first
            | ((with_reducible apply Sat.run (X := X64)); exact rfl; (first | exact True.intro | (exact phi) | skip))
            | ((with_reducible apply Sat.drawn); kernel_rfl)
            | ((with_reducible apply DSat.run (X := X64)); exact rfl; (first | exact True.intro | (exact phi) | skip))
            | ((with_reducible apply DSat.fin); kernel_rfl)
            | ((with_reducible apply Sat.cond_t); exact rfl)
            | ((with_reducible apply Sat.cond_f); exact rfl)
            | ((with_reducible apply Sat.cond_pt); exact rfl; (try dsimp only [V.EV.sub, V.EV.len]); first | assumption | omega)
            | ((with_reducible apply Sat.cond_pf); exact rfl; (try dsimp only [V.EV.sub, V.EV.len]); first | assumption | omega)
            | ((with_reducible apply Sat.cond_p); exact rfl; all_goals (intro h; (try simp only [V.EV.sub, V.EV.len] at h)))
            | ((with_reducible apply Sat.cond); exact rfl; all_goals (intro h; (try simp only [V.EV.sub, V.EV.len, Bool.cond_true_left, Bool.cond_false_right, Bool.or_eq_true, Bool.and_eq_true, Bool.or_eq_false_iff, Bool.and_eq_false_iff, Bool.not_eq_true', Bool.not_eq_false', decide_eq_true_eq, decide_eq_false_iff_not, ne_eq] at h)))
            | ((with_reducible apply Sat.callG1 (sumB_spec _)); exact rfl; exact rfl; exact rfl; exact rfl; kernel_rfl; (intro hG; (exact cnvX)); exact rfl)
            | ((with_reducible apply DSat.callG1 (sumB_spec _)); exact rfl; exact rfl; exact rfl; exact rfl; kernel_rfl; (intro hG; (exact cnvX)); exact rfl)
            | ((with_reducible apply Sat.callR (sumB_spec _)); exact rfl; exact rfl; exact rfl; kernel_rfl; (exact cnvX); exact rfl)
            | ((with_reducible apply DSat.callR (sumB_spec _)); exact rfl; exact rfl; exact rfl; kernel_rfl; (exact cnvX); exact rfl) | fail)
        · refine Sat.back (k + 1) [] rfl ?_ (by omega) (by omega)
          (repeat' (first | exact AllP.nil | with_reducible refine AllP.cons ?_ ?_)) <;> first | with_reducible exact rfl | exact Int.natCast_add_one _ | (rw [Nat.zero_add]; exact (any_take acc (fun y => decide (y = (sumB (kl.getD ((i : Int).toNat) 0)))) k (by omega)).symm) | exact rfl | exact trivial | (intro _ _; simp [pureL, pureS, pureE]; done) | exact ⟨rfl, rfl, rfl, rfl⟩
        · rename_i h'
          have hk2 : k = acc.length := by omega
          subst hk2
          rw [List.take_length] at h
          refine Sat.back (i + 1, acc ++ [(sumB (kl.getD ((i : Int).toNat) 0))]) [(3, some 5)] rfl ?_ ?_ ?_
          · (repeat' (first | exact AllP.nil | with_reducible refine AllP.cons ?_ ?_)) <;> first | with_reducible exact rfl | exact Int.natCast_add_one _ | (show acc.length + 1 = (acc ++ [(sumB (kl.getD ((i : Int).toNat) 0))]).length; simp; done) | exact sums_pure acc (sumB (kl.getD ((i : Int).toNat) 0)) | (intro z hz; exact sums_snoc acc (sumB (kl.getD ((i : Int).toNat) 0)) z hz) | (show _ = (acc ++ [(sumB (kl.getD ((i : Int).toNat) 0))]).length; simp [EV.len, EV.sub]; done) | (refine ⟨rfl, rfl, rfl, ?_⟩; show _ = (acc ++ [(sumB (kl.getD ((i : Int).toNat) 0))]).length; simp [EV.len, EV.sub]; done) | exact rfl | exact trivial | (intro _ _; simp [pureL, pureS, pureE]; done) | exact ⟨rfl, rfl, rfl, rfl⟩
          · refine ⟨by dsimp only; omega, by dsimp only; omega, by simp only [List.length_append, List.length_cons, List.length_nil]; omega, ?_⟩
            dsimp only
            rw [x3, drop_step kl 0 5 i (by omega) (by omega)]
            conv => lhs; rw [keysM]
            rw [Int.toNat_natCast] at h ⊢
            rw [h]
            rfl
          · dsimp only; omega
        · rename_i h'
          have hk2 : k = acc.length := by omega
          subst hk2
          rw [List.take_length] at h
          refine Sat.back (i + 1, acc) [(3, some 3)] rfl ?_ ?_ ?_
          · (repeat' (first | exact AllP.nil | with_reducible refine AllP.cons ?_ ?_)) <;> first | with_reducible exact rfl | exact Int.natCast_add_one _ | exact rfl | exact trivial | (intro _ _; simp [pureL, pureS, pureE]; done) | exact ⟨rfl, rfl, rfl, rfl⟩
          · refine ⟨by dsimp only; omega, by dsimp only; omega, by dsimp only; omega, ?_⟩
            dsimp only
            rw [x3, drop_step kl 0 5 i (by omega) (by omega)]
            conv => lhs; rw [keysM]
            rw [Int.toNat_natCast] at h
            rw [h]
            rfl
          · dsimp only; omega
    · have he : 5 ≤ i ∨ kl.length ≤ i := by
        rename_i h'
        rcases h' with h' | h'
        · have := of_decide_eq_false h'; omega
        · omega
      rw [drop_end kl 5 i he] at x3
      have x4 : keysM [] (kl.take 5) = acc := x3
      have hK : keysF (kl.take 5) = [List.replicate 32 0] := by
        unfold keysF
        rw [x4, decide_eq_true (by omega : acc.length = 0)]
        rfl
      rw [hK]
      clear x3 x4 hK he
      apply Sat.loop (α := Nat × List RoleL) (fun x => x.1 ≤ 4 ∧ x.1 ≤ rl.length ∧ x.2.length = x.1 ∧ rolesM 1 0 (rl.take 4) = x.2 ++ rolesM 1 x.1 ((rl.take 4).drop x.1)) (fun x => 4 - x.1) (0, []) (fun x => [(8, .int .i64 (x.1 : Int))]) (fun x => [(2, .cells 31 [.int .i64 gen, .int .i64 exp, .row 4 0 32 0 1, .row 6 0 3 0 x.2.length]), (4, .row 23 (keysE [List.replicate 32 0])), (5, .row 9 (.g 4 1 fun i => [.str (nameR i)])), (6, .row 68 (rolesE x.2))]) [] [(6, none)] 1
      · intro x; exact rfl
      · intro x; exact rfl
      · exact rfl
      · exact rfl
      · (repeat' (first | exact AllP.nil | with_reducible refine AllP.cons ?_ ?_)) <;> first | with_reducible exact rfl | (intro z hz; rcases z with _ | _ | _ | _ | z <;> first | rfl | (exfalso; omega)) | (intro z hz; rcases z with _ | _ | _ | _ | z <;> first | exact ⟨trivial, trivial⟩ | exact ⟨by simp [pureS, pureE], trivial⟩ | (exfalso; omega)) | (intro z hz; have hz : z < 1 := hz; obtain rfl : z = 0 := (by omega); first | rfl | (simp [nthL, pureL, pureS, pureE]; done) | exact ⟨trivial, by simp [pureS, pureE], trivial, trivial⟩) | exact rfl | exact trivial | (intro _ _; simp [pureL, pureS, pureE]; done) | exact ⟨rfl, rfl, rfl, rfl⟩
      · exact ⟨Nat.zero_le _, Nat.zero_le _, rfl, rfl⟩
      · rintro ⟨j, rs⟩ ⟨y0, y1, y2, y3⟩
        dsimp only at y0 y1 y2 y3 ⊢
        by_cases hj : j < 4 ∧ j < rl.length
        · obtain ⟨hj4, hjl⟩ := hj
          repeat' (first
              | ((with_reducible apply Sat.run (X := X64)); exact rfl; (first | exact True.intro | (exact phi) | skip))
              | ((with_reducible apply Sat.drawn); kernel_rfl)
              | ((with_reducible apply DSat.run (X := X64)); exact rfl; (first | exact True.intro | (exact phi) | skip))
              | ((with_reducible apply DSat.fin); kernel_rfl) | fail)
          with_reducible apply Sat.cond
          · exact rfl
          · intro h
            clear h
            repeat' (first
                | ((with_reducible apply Sat.run (X := X64)); exact rfl; (first | exact True.intro | (exact phi) | skip))
                | ((with_reducible apply Sat.drawn); kernel_rfl)
                | ((with_reducible apply DSat.run (X := X64)); exact rfl; (first | exact True.intro | (exact phi) | skip))
                | ((with_reducible apply DSat.fin); kernel_rfl) | fail)
            apply Sat.loop (α := Nat) (fun x => x ≤ 1) (fun x => 1 - x) 0 (fun x => [(10, .int .i64 (x : Int))]) (fun x => [(7, .cells 68 [.str (nameR (0 + (j : Int).toNat)), .row 8 0 1 0 (rkM (rl.getD ((j : Int).toNat) (0, 0)).1 1 x).length, .int .i64 0]), (8, .row 3 (.ints .i64 (rkM (rl.getD ((j : Int).toNat) (0, 0)).1 1 x)))]) [] [(8, none)] 1
            · intro x; exact rfl
            · intro x; exact rfl
            · exact rfl
            · exact rfl
            · (repeat' (first | exact AllP.nil | with_reducible refine AllP.cons ?_ ?_)) <;> first | with_reducible exact rfl | exact rfl | exact trivial | (intro _ _; simp [pureL, pureS, pureE]; done) | exact ⟨rfl, rfl, rfl, rfl⟩
            · exact Nat.zero_le _
            · intro k hk
              have hkl := rkM_len (rl.getD ((j : Int).toNat) (0, 0)).1 1 k
              by_cases hkn : k < 1
              · repeat' (first
                    | ((with_reducible apply Sat.run (X := X64)); exact rfl; (first | exact True.intro | (exact phi) | skip))
                    | ((with_reducible apply Sat.drawn); kernel_rfl)
                    | ((with_reducible apply DSat.run (X := X64)); exact rfl; (first | exact True.intro | (exact phi) | skip))
                    | ((with_reducible apply DSat.fin); kernel_rfl)
                    | ((with_reducible apply Sat.cond_t); exact rfl)
                    | ((with_reducible apply Sat.cond_f); exact rfl)
                    | ((with_reducible apply Sat.cond_pt); exact rfl; (try dsimp only [V.EV.sub, V.EV.len]); first | assumption | omega)
                    | ((with_reducible apply Sat.cond_pf); exact rfl; (try dsimp only [V.EV.sub, V.EV.len]); first | assumption | omega)
                    | ((with_reducible apply Sat.cond_p); exact rfl; all_goals intro h)
                    | ((with_reducible apply Sat.cond); exact rfl; all_goals intro h) | fail)
                · rw [cond_val] at h
                  have hst : rkM (rl.getD ((j : Int).toNat) (0, 0)).1 1 (k + 1) = rkM (rl.getD ((j : Int).toNat) (0, 0)).1 1 k ++ [(k : Int)] := by rw [rkM, h]; rfl
                  refine Sat.back (k + 1) [(8, some 10)] rfl ?_ (by omega) (by omega)
                  (repeat' (first | exact AllP.nil | with_reducible refine AllP.cons ?_ ?_)) <;> first | with_reducible exact rfl | exact Int.natCast_add_one _ | (rw [hst]; done) | (rw [hst]; exact rfl) | (rw [hst]; simp [EV.len, EV.sub]; done) | (refine ⟨rfl, rfl, rfl, ?_⟩; rw [hst]; simp [EV.len, EV.sub]; done) | exact rfl | exact trivial | (intro _ _; simp [pureL, pureS, pureE]; done) | exact ⟨rfl, rfl, rfl, rfl⟩
                · rw [cond_val] at h
                  have hst : rkM (rl.getD ((j : Int).toNat) (0, 0)).1 1 (k + 1) = rkM (rl.getD ((j : Int).toNat) (0, 0)).1 1 k := by rw [rkM, h]; rfl
                  refine Sat.back (k + 1) [(8, some 8)] rfl ?_ (by omega) (by omega)
                  (repeat' (first | exact AllP.nil | with_reducible refine AllP.cons ?_ ?_)) <;> first | with_reducible exact rfl | exact Int.natCast_add_one _ | (rw [hst]; done) | (rw [hst]; exact rfl) | (rw [hst]; exact ⟨rfl, rfl, rfl, rfl⟩) | exact rfl | exact trivial | (intro _ _; simp [pureL, pureS, pureE]; done) | exact ⟨rfl, rfl, rfl, rfl⟩
              · have hk2 : k = 1 := by omega
                subst hk2
                have hp := rkM_pos (rl.getD ((j : Int).toNat) (0, 0)).1 1 (by omega)
                repeat' (first
                    | ((with_reducible apply Sat.run (X := X64)); exact rfl; (first | exact True.intro | (exact phi) | skip))
                    | ((with_reducible apply Sat.drawn); kernel_rfl)
                    | ((with_reducible apply DSat.run (X := X64)); exact rfl; (first | exact True.intro | (exact phi) | skip))
                    | ((with_reducible apply DSat.fin); kernel_rfl) | fail)
                with_reducible apply Sat.cond_pf
                · exact rfl
                · omega
                refine Sat.runN (X := X64) 6 rfl True.intro ?_
                have hq1 := (rl.getD ((j : Int).toNat) (0, 0)).2.toNat_lt
                have hm1 := Int.emod_nonneg ((rl.getD ((j : Int).toNat) (0, 0)).2.toNat : Int) (show ((rkM (rl.getD ((j : Int).toNat) (0, 0)).1 1 1).length : Int) ≠ 0 by omega)
                have hm2 := Int.emod_lt_of_pos ((rl.getD ((j : Int).toNat) (0, 0)).2.toNat : Int) (show 0 < ((rkM (rl.getD ((j : Int).toNat) (0, 0)).1 1 1).length : Int) by omega)
                with_reducible apply Sat.drawn
                · kernel_rfl
                with_reducible apply DSat.run (X := X64)
                · exact rfl
                · exact phi
                with_reducible apply DSat.fin
                · kernel_rfl
                refine Sat.runN (X := X64) 2 rfl True.intro ?_
                refine Sat.tidy rfl ?_
                refine Sat.freezeR true 8 rfl ?_ ?_
                · (repeat' (first | exact AllP.nil | with_reducible refine AllP.cons ?_ ?_)) <;> first | exact rfl | exact trivial | exact .inl ⟨rfl, rfl, rfl⟩ | (intro _ _; simp [pureL, pureS, pureE]; done) | (intro _ _; exact rfl) | (intro _; exact rfl) | (intro _; exact trivial) | (intro _; exact .inl ⟨rfl, rfl, rfl⟩) | (intro _ _ _; simp [pureL, pureS, pureE]; done) | exact ⟨rfl, rfl, rfl, rfl⟩ | (intro _; exact ⟨rfl, rfl, rfl, rfl⟩)
                repeat' (first
                    | ((with_reducible apply Sat.run (X := X64)); exact rfl; (first | exact True.intro | (exact phi) | skip))
                    | ((with_reducible apply Sat.drawn); kernel_rfl)
                    | ((with_reducible apply DSat.run (X := X64)); exact rfl; (first | exact True.intro | (exact phi) | skip))
                    | ((with_reducible apply DSat.fin); kernel_rfl) | fail)
                have hj0 : 0 + (j : Int).toNat = j := by omega
                refine Sat.back (j + 1, rs ++ [(⟨nameR (0 + (j : Int).toNat), rkM (rl.getD ((j : Int).toNat) (0, 0)).1 1 1, 1 + ((rl.getD ((j : Int).toNat) (0, 0)).2.toNat : Int) % ((rkM (rl.getD ((j : Int).toNat) (0, 0)).1 1 1).length : Int)⟩ : RoleL)]) [(6, some 10)] rfl ?_ ?_ ?_
                · (repeat' (first | exact AllP.nil | with_reducible refine AllP.cons ?_ ?_)) <;> first | with_reducible exact rfl | exact Int.natCast_add_one _ | (show rs.length + 1 = (rs ++ [(⟨nameR (0 + (j : Int).toNat), rkM (rl.getD ((j : Int).toNat) (0, 0)).1 1 1, 1 + ((rl.getD ((j : Int).toNat) (0, 0)).2.toNat : Int) % ((rkM (rl.getD ((j : Int).toNat) (0, 0)).1 1 1).length : Int)⟩ : RoleL)]).length; simp; done) | exact roles_pure rs (⟨nameR (0 + (j : Int).toNat), rkM (rl.getD ((j : Int).toNat) (0, 0)).1 1 1, 1 + ((rl.getD ((j : Int).toNat) (0, 0)).2.toNat : Int) % ((rkM (rl.getD ((j : Int).toNat) (0, 0)).1 1 1).length : Int)⟩ : RoleL) | (intro z hz; exact roles_snoc rs (⟨nameR (0 + (j : Int).toNat), rkM (rl.getD ((j : Int).toNat) (0, 0)).1 1 1, 1 + ((rl.getD ((j : Int).toNat) (0, 0)).2.toNat : Int) % ((rkM (rl.getD ((j : Int).toNat) (0, 0)).1 1 1).length : Int)⟩ : RoleL) z hz) | (show _ = (rs ++ [(⟨nameR (0 + (j : Int).toNat), rkM (rl.getD ((j : Int).toNat) (0, 0)).1 1 1, 1 + ((rl.getD ((j : Int).toNat) (0, 0)).2.toNat : Int) % ((rkM (rl.getD ((j : Int).toNat) (0, 0)).1 1 1).length : Int)⟩ : RoleL)]).length; simp [EV.len, EV.sub]; done) | (refine ⟨rfl, rfl, rfl, ?_⟩; show _ = (rs ++ [(⟨nameR (0 + (j : Int).toNat), rkM (rl.getD ((j : Int).toNat) (0, 0)).1 1 1, 1 + ((rl.getD ((j : Int).toNat) (0, 0)).2.toNat : Int) % ((rkM (rl.getD ((j : Int).toNat) (0, 0)).1 1 1).length : Int)⟩ : RoleL)]).length; simp [EV.len, EV.sub]; done) | exact rfl | exact trivial | (intro _ _; simp [pureL, pureS, pureE]; done) | exact ⟨rfl, rfl, rfl, rfl⟩
                · refine ⟨by dsimp only; omega, by dsimp only; omega, by simp only [List.length_append, List.length_cons, List.length_nil]; omega, ?_⟩
                  dsimp only
                  rw [y3, drop_step rl (0, 0) 4 j (by omega) (by omega)]
                  conv => lhs; rw [rolesM]
                  simp only [List.append_assoc, List.cons_append, List.nil_append]
                  rw [hj0]
                  rfl
                · dsimp only; omega
          · intro h
            exfalso
            have hq : decide ((j : Int) < ((rawRoles rl).len : Int)) = true := decide_eq_true (by show (j : Int) < (rl.length : Int); omega)
            have hq2 : decide ((j : Int) < 4) = true := decide_eq_true (by omega)
            rw [hq, hq2] at h
            cases h
        · have he : 4 ≤ j ∨ rl.length ≤ j := by omega
          rw [drop_end rl 4 j he] at y3
          have y4 : rolesM 1 0 (rl.take 4) = rs := by rw [y3]; exact List.append_nil _
          repeat' (first
              | ((with_reducible apply Sat.run (X := X64)); exact rfl; (first | exact True.intro | (exact phi) | skip))
              | ((with_reducible apply Sat.drawn); kernel_rfl)
              | ((with_reducible apply DSat.run (X := X64)); exact rfl; (first | exact True.intro | (exact phi) | skip))
              | ((with_reducible apply DSat.fin); kernel_rfl) | fail)
          with_reducible apply Sat.cond
          · exact rfl
          · intro h
            exfalso
            rcases he with he | he
            · rw [decide_eq_false (show ¬ (j : Int) < 4 by omega)] at h
              revert h
              cases decide ((j : Int) < ((rawRoles rl).len : Int)) <;> exact fun h => (by cases h)
            · rw [decide_eq_false (show ¬ (j : Int) < ((rawRoles rl).len : Int) by show ¬ (j : Int) < (rl.length : Int); omega)] at h
              cases h
          intro h
          clear h
          repeat' (first
              | ((with_reducible apply Sat.run (X := X64)); exact rfl; (first | exact True.intro | (exact phi) | skip))
              | ((with_reducible apply Sat.drawn); kernel_rfl)
              | ((with_reducible apply DSat.run (X := X64)); exact rfl; (first | exact True.intro | (exact phi) | skip))
              | ((with_reducible apply DSat.fin); kernel_rfl) | fail)
          with_reducible apply Sat.cond
          · exact rfl
          · intro h
            have hR : rolesF 1 (rl.take 4) = [⟨nameR 1, [0], 1⟩] := by
              unfold rolesF
              have h := of_decide_eq_true h
              rw [y4, decide_eq_true (by omega : rs.length = 0)]
              rfl
            rw [show rolesF ([List.replicate 32 (0 : UInt8)] : List (List UInt8)).length (rl.take 4) = _ from hR]
            refine Sat.enter ?_
            refine Sat.one (X := X64) rfl True.intro ?_
            refine Sat.one (X := X64) rfl True.intro ?_
            refine Sat.tidy rfl ?_
            refine Sat.freezeR true 7 rfl ?_ ?_
            · (repeat' (first | exact AllP.nil | with_reducible refine AllP.cons ?_ ?_)) <;> first | exact rfl | exact trivial | exact .inl ⟨rfl, rfl, rfl⟩ | (intro _ _; simp [pureL, pureS, pureE]; done) | (intro _ _; exact rfl) | (intro _; exact rfl) | (intro _; exact trivial) | (intro _; exact .inl ⟨rfl, rfl, rfl⟩) | (intro _ _ _; simp [pureL, pureS, pureE]; done) | exact ⟨rfl, rfl, rfl, rfl⟩ | (intro _; exact ⟨rfl, rfl, rfl, rfl⟩)
            refine Sat.one (X := X64) rfl True.intro ?_
            refine Sat.one (X := X64) rfl True.intro ?_
            refine Sat.one (X := X64) rfl True.intro ?_
            refine Sat.runN (X := X64) 3 rfl True.intro ?_
            refine Sat.enter ?_
            refine Sat.tidy rfl ?_
            refine Sat.freezeR true 8 rfl ?_ ?_
            · (repeat' (first | exact AllP.nil | with_reducible refine AllP.cons ?_ ?_)) <;> first | exact rfl | exact trivial | exact .inl ⟨rfl, rfl, rfl⟩ | (intro _ _; simp [pureL, pureS, pureE]; done) | (intro _ _; exact rfl) | (intro _; exact rfl) | (intro _; exact trivial) | (intro _; exact .inl ⟨rfl, rfl, rfl⟩) | (intro _ _ _; simp [pureL, pureS, pureE]; done) | exact ⟨rfl, rfl, rfl, rfl⟩ | (intro _; exact ⟨rfl, rfl, rfl, rfl⟩) | (intro z hz; rcases z with _ | _ | _ | _ | z <;> first | rfl | (exfalso; omega)) | (intro z hz; rcases z with _ | _ | _ | _ | z <;> first | exact ⟨trivial, trivial⟩ | exact ⟨by simp [pureS, pureE], trivial⟩ | (exfalso; omega)) | (intro z hz; have hz : z < 1 := hz; obtain rfl : z = 0 := (by omega); first | rfl | (simp [nthL, pureL, pureS, pureE]; done) | exact ⟨trivial, by simp [pureS, pureE], trivial, trivial⟩)
            refine Sat.freezeR true 4 rfl ?_ ?_
            · (repeat' (first | exact AllP.nil | with_reducible refine AllP.cons ?_ ?_)) <;> first | exact rfl | exact trivial | exact .inl ⟨rfl, rfl, rfl⟩ | (intro _ _; simp [pureL, pureS, pureE]; done) | (intro _ _; exact rfl) | (intro _; exact rfl) | (intro _; exact trivial) | (intro _; exact .inl ⟨rfl, rfl, rfl⟩) | (intro _ _ _; simp [pureL, pureS, pureE]; done) | exact ⟨rfl, rfl, rfl, rfl⟩ | (intro _; exact ⟨rfl, rfl, rfl, rfl⟩) | (intro z hz; rcases z with _ | _ | _ | _ | z <;> first | rfl | (exfalso; omega)) | (intro z hz; rcases z with _ | _ | _ | _ | z <;> first | exact ⟨trivial, trivial⟩ | exact ⟨by simp [pureS, pureE], trivial⟩ | (exfalso; omega)) | (intro z hz; have hz : z < 1 := hz; obtain rfl : z = 0 := (by omega); first | rfl | (simp [nthL, pureL, pureS, pureE]; done) | exact ⟨trivial, by simp [pureS, pureE], trivial, trivial⟩)
            repeat' (first
                | ((with_reducible apply Sat.run (X := X64)); exact rfl; (first | exact True.intro | (exact phi) | skip))
                | ((with_reducible apply Sat.drawn); kernel_rfl)
                | ((with_reducible apply DSat.run (X := X64)); exact rfl; (first | exact True.intro | (exact phi) | skip))
                | ((with_reducible apply DSat.fin); kernel_rfl)
                | ((with_reducible apply Sat.cond_t); exact rfl)
                | ((with_reducible apply Sat.cond_f); exact rfl)
                | ((with_reducible apply Sat.cond_pt); exact rfl; (try dsimp only [V.EV.sub, V.EV.len]); first | assumption | omega)
                | ((with_reducible apply Sat.cond_pf); exact rfl; (try dsimp only [V.EV.sub, V.EV.len]); first | assumption | omega)
                | ((with_reducible apply Sat.cond_p); exact rfl; all_goals intro h)
                | ((with_reducible apply Sat.cond); exact rfl; all_goals intro h) | fail)
            refine Sat.end1 rfl rfl rfl True.intro (.agg _ _ (.cons _ _ _ _ (.refl _ trivial) (.cons _ _ _ _ (.refl _ trivial) (.cons _ _ _ _ (.refl _ purX) (.cons _ _ _ _ (.gx _ 1 3 _ _ (.refl _ ?_) ?_) .nil))))) (by first | exact .inl rfl | exact .inr rfl) (fun _ h => h)
            · intro i hi
              rcases i with _ | i
              · exact ⟨trivial, by simp [pureS, pureE], trivial, trivial⟩
              · omega
            · intro i hi
              rcases i with _ | i
              · rfl
              · omega
          · intro h
            have hR : rolesF 1 (rl.take 4) = rs := by
              unfold rolesF
              have h := of_decide_eq_false h
              rw [y4, decide_eq_false (by omega : ¬ rs.length = 0)]
              rfl
            rw [show rolesF ([List.replicate 32 (0 : UInt8)] : List (List UInt8)).length (rl.take 4) = _ from hR]
            refine Sat.runN (X := X64) 3 rfl True.intro ?_
            refine Sat.enter ?_
            refine Sat.tidy rfl ?_
            refine Sat.freezeR true 6 rfl ?_ ?_
            · (repeat' (first | exact AllP.nil | with_reducible refine AllP.cons ?_ ?_)) <;> first | exact rfl | exact trivial | exact .inl ⟨rfl, rfl, rfl⟩ | (intro _ _; simp [pureL, pureS, pureE]; done) | (intro _ _; exact rfl) | (intro _; exact rfl) | (intro _; exact trivial) | (intro _; exact .inl ⟨rfl, rfl, rfl⟩) | (intro _ _ _; simp [pureL, pureS, pureE]; done) | exact ⟨rfl, rfl, rfl, rfl⟩ | (intro _; exact ⟨rfl, rfl, rfl, rfl⟩)
            refine Sat.freezeR true 4 rfl ?_ ?_
            · (repeat' (first | exact AllP.nil | with_reducible refine AllP.cons ?_ ?_)) <;> first | exact rfl | exact trivial | exact .inl ⟨rfl, rfl, rfl⟩ | (intro _ _; simp [pureL, pureS, pureE]; done) | (intro _ _; exact rfl) | (intro _; exact rfl) | (intro _; exact trivial) | (intro _; exact .inl ⟨rfl, rfl, rfl⟩) | (intro _ _ _; simp [pureL, pureS, pureE]; done) | exact ⟨rfl, rfl, rfl, rfl⟩ | (intro _; exact ⟨rfl, rfl, rfl, rfl⟩)
            repeat' (first
                | ((with_reducible apply Sat.run (X := X64)); exact rfl; (first | exact True.intro | (exact phi) | skip))
                | ((with_reducible apply Sat.drawn); kernel_rfl)
                | ((with_reducible apply DSat.run (X := X64)); exact rfl; (first | exact True.intro | (exact phi) | skip))
                | ((with_reducible apply DSat.fin); kernel_rfl)
                | ((with_reducible apply Sat.cond_t); exact rfl)
                | ((with_reducible apply Sat.cond_f); exact rfl)
                | ((with_reducible apply Sat.cond_pt); exact rfl; (try dsimp only [V.EV.sub, V.EV.len]); first | assumption | omega)
                | ((with_reducible apply Sat.cond_pf); exact rfl; (try dsimp only [V.EV.sub, V.EV.len]); first | assumption | omega)
                | ((with_reducible apply Sat.cond_p); exact rfl; all_goals intro h)
                | ((with_reducible apply Sat.cond); exact rfl; all_goals intro h) | fail)
            (refine Sat.fin (Sat.end1 rfl rfl rfl True.intro (.refl _ purX) (by first | exact .inl rfl | exact .inr rfl) (fun _ h => h)) ?_; rfl)
    · have he : 5 ≤ i ∨ kl.length ≤ i := by
        rename_i h'
        rcases h' with h' | h'
        · have := of_decide_eq_false h'; omega
        · omega
      rw [drop_end kl 5 i he] at x3
      have x4 : keysM [] (kl.take 5) = acc := x3
      have hK : keysF (kl.take 5) = acc := by
        unfold keysF
        rw [x4, decide_eq_false (by omega : ¬ acc.length = 0)]
        rfl
      have hN0 : 0 < acc.length := by omega
      rw [hK]
      clear x3 x4 hK he
      apply Sat.loop (α := Nat × List RoleL) (fun x => x.1 ≤ 4 ∧ x.1 ≤ rl.length ∧ x.2.length = x.1 ∧ rolesM acc.length 0 (rl.take 4) = x.2 ++ rolesM acc.length x.1 ((rl.take 4).drop x.1)) (fun x => 4 - x.1) (0, []) (fun x => [(8, .int .i64 (x.1 : Int))]) (fun x => [(2, .cells 31 [.int .i64 gen, .int .i64 exp, .row 3 0 32 0 acc.length, .row 5 0 3 0 x.2.length]), (3, .row 23 (keysE acc)), (4, .row 9 (.g 4 1 fun i => [.str (nameR i)])), (5, .row 68 (rolesE x.2))]) [] [(5, none)] 1
      · intro x; exact rfl
      · intro x; exact rfl
      · exact rfl
      · exact rfl
      · (repeat' (first | exact AllP.nil | with_reducible refine AllP.cons ?_ ?_)) <;> first | with_reducible exact rfl | (intro z hz; rcases z with _ | _ | _ | _ | z <;> first | rfl | (exfalso; omega)) | (intro z hz; rcases z with _ | _ | _ | _ | z <;> first | exact ⟨trivial, trivial⟩ | exact ⟨by simp [pureS, pureE], trivial⟩ | (exfalso; omega)) | (intro z hz; have hz : z < 1 := hz; obtain rfl : z = 0 := (by omega); first | rfl | (simp [nthL, pureL, pureS, pureE]; done) | exact ⟨trivial, by simp [pureS, pureE], trivial, trivial⟩) | exact rfl | exact trivial | (intro _ _; simp [pureL, pureS, pureE]; done) | exact ⟨rfl, rfl, rfl, rfl⟩
      · exact ⟨Nat.zero_le _, Nat.zero_le _, rfl, rfl⟩
      · rintro ⟨j, rs⟩ ⟨y0, y1, y2, y3⟩
        dsimp only at y0 y1 y2 y3 ⊢
        by_cases hj : j < 4 ∧ j < rl.length
        · obtain ⟨hj4, hjl⟩ := hj
          repeat' (first
              | ((with_reducible apply Sat.run (X := X64)); exact rfl; (first | exact True.intro | (exact phi) | skip))
              | ((with_reducible apply Sat.drawn); kernel_rfl)
              | ((with_reducible apply DSat.run (X := X64)); exact rfl; (first | exact True.intro | (exact phi) | skip))
              | ((with_reducible apply DSat.fin); kernel_rfl) | fail)
          with_reducible apply Sat.cond
          · exact rfl
          · intro h
            clear h
            repeat' (first
                | ((with_reducible apply Sat.run (X := X64)); exact rfl; (first | exact True.intro | (exact phi) | skip))
                | ((with_reducible apply Sat.drawn); kernel_rfl)
                | ((with_reducible apply DSat.run (X := X64)); exact rfl; (first | exact True.intro | (exact phi) | skip))
                | ((with_reducible apply DSat.fin); kernel_rfl) | fail)
            apply Sat.loop (α := Nat) (fun x => x ≤ acc.length) (fun x => acc.length - x) 0 (fun x => [(10, .int .i64 (x : Int))]) (fun x => [(6, .cells 68 [.str (nameR (0 + (j : Int).toNat)), .row 7 0 1 0 (rkM (rl.getD ((j : Int).toNat) (0, 0)).1 acc.length x).length, .int .i64 0]), (7, .row 3 (.ints .i64 (rkM (rl.getD ((j : Int).toNat) (0, 0)).1 acc.length x)))]) [] [(7, none)] 1
            · intro x; exact rfl
            · intro x; exact rfl
            · exact rfl
            · exact rfl
            · (repeat' (first | exact AllP.nil | with_reducible refine AllP.cons ?_ ?_)) <;> first | with_reducible exact rfl | exact rfl | exact trivial | (intro _ _; simp [pureL, pureS, pureE]; done) | exact ⟨rfl, rfl, rfl, rfl⟩
            · exact Nat.zero_le _
            · intro k hk
              have hkl := rkM_len (rl.getD ((j : Int).toNat) (0, 0)).1 acc.length k
              by_cases hkn : k < acc.length
              · repeat' (first
                    | ((with_reducible apply Sat.run (X := X64)); exact rfl; (first | exact True.intro | (exact phi) | skip))
                    | ((with_reducible apply Sat.drawn); kernel_rfl)
                    | ((with_reducible apply DSat.run (X := X64)); exact rfl; (first | exact True.intro | (exact phi) | skip))
                    | ((with_reducible apply DSat.fin); kernel_rfl)
                    | ((with_reducible apply Sat.cond_t); exact rfl)
                    | ((with_reducible apply Sat.cond_f); exact rfl)
                    | ((with_reducible apply Sat.cond_pt); exact rfl; (try dsimp only [V.EV.sub, V.EV.len]); first | assumption | omega)
                    | ((with_reducible apply Sat.cond_pf); exact rfl; (try dsimp only [V.EV.sub, V.EV.len]); first | assumption | omega)
                    | ((with_reducible apply Sat.cond_p); exact rfl; all_goals intro h)
                    | ((with_reducible apply Sat.cond); exact rfl; all_goals intro h) | fail)
                · rw [cond_val] at h
                  have hst : rkM (rl.getD ((j : Int).toNat) (0, 0)).1 acc.length (k + 1) = rkM (rl.getD ((j : Int).toNat) (0, 0)).1 acc.length k ++ [(k : Int)] := by rw [rkM, h]; rfl
                  refine Sat.back (k + 1) [(7, some 9)] rfl ?_ (by omega) (by omega)
                  (repeat' (first | exact AllP.nil | with_reducible refine AllP.cons ?_ ?_)) <;> first | with_reducible exact rfl | exact Int.natCast_add_one _ | (rw [hst]; done) | (rw [hst]; exact rfl) | (rw [hst]; simp [EV.len, EV.sub]; done) | (refine ⟨rfl, rfl, rfl, ?_⟩; rw [hst]; simp [EV.len, EV.sub]; done) | exact rfl | exact trivial | (intro _ _; simp [pureL, pureS, pureE]; done) | exact ⟨rfl, rfl, rfl, rfl⟩
                · rw [cond_val] at h
                  have hst : rkM (rl.getD ((j : Int).toNat) (0, 0)).1 acc.length (k + 1) = rkM (rl.getD ((j : Int).toNat) (0, 0)).1 acc.length k := by rw [rkM, h]; rfl
                  refine Sat.back (k + 1) [(7, some 7)] rfl ?_ (by omega) (by omega)
                  (repeat' (first | exact AllP.nil | with_reducible refine AllP.cons ?_ ?_)) <;> first | with_reducible exact rfl | exact Int.natCast_add_one _ | (rw [hst]; done) | (rw [hst]; exact rfl) | (rw [hst]; exact ⟨rfl, rfl, rfl, rfl⟩) | exact rfl | exact trivial | (intro _ _; simp [pureL, pureS, pureE]; done) | exact ⟨rfl, rfl, rfl, rfl⟩
              · have hk2 : k = acc.length := by omega
                subst hk2
                have hp := rkM_pos (rl.getD ((j : Int).toNat) (0, 0)).1 acc.length (by omega)
                repeat' (first
                    | ((with_reducible apply Sat.run (X := X64)); exact rfl; (first | exact True.intro | (exact phi) | skip))
                    | ((with_reducible apply Sat.drawn); kernel_rfl)
                    | ((with_reducible apply DSat.run (X := X64)); exact rfl; (first | exact True.intro | (exact phi) | skip))
                    | ((with_reducible apply DSat.fin); kernel_rfl) | fail)
                with_reducible apply Sat.cond_pf
                · exact rfl
                · omega
                refine Sat.runN (X := X64) 6 rfl True.intro ?_
                have hq1 := (rl.getD ((j : Int).toNat) (0, 0)).2.toNat_lt
                have hm1 := Int.emod_nonneg ((rl.getD ((j : Int).toNat) (0, 0)).2.toNat : Int) (show ((rkM (rl.getD ((j : Int).toNat) (0, 0)).1 acc.length acc.length).length : Int) ≠ 0 by omega)
                have hm2 := Int.emod_lt_of_pos ((rl.getD ((j : Int).toNat) (0, 0)).2.toNat : Int) (show 0 < ((rkM (rl.getD ((j : Int).toNat) (0, 0)).1 acc.length acc.length).length : Int) by omega)
                with_reducible apply Sat.drawn
                · kernel_rfl
                with_reducible apply DSat.run (X := X64)
                · exact rfl
                · exact phi
                with_reducible apply DSat.fin
                · kernel_rfl
                refine Sat.runN (X := X64) 2 rfl True.intro ?_
                refine Sat.tidy rfl ?_
                refine Sat.freezeR true 7 rfl ?_ ?_
                · (repeat' (first | exact AllP.nil | with_reducible refine AllP.cons ?_ ?_)) <;> first | exact rfl | exact trivial | exact .inl ⟨rfl, rfl, rfl⟩ | (intro _ _; simp [pureL, pureS, pureE]; done) | (intro _ _; exact rfl) | (intro _; exact rfl) | (intro _; exact trivial) | (intro _; exact .inl ⟨rfl, rfl, rfl⟩) | (intro _ _ _; simp [pureL, pureS, pureE]; done) | exact ⟨rfl, rfl, rfl, rfl⟩ | (intro _; exact ⟨rfl, rfl, rfl, rfl⟩)
                repeat' (first
                    | ((with_reducible apply Sat.run (X := X64)); exact rfl; (first | exact True.intro | (exact phi) | skip))
                    | ((with_reducible apply Sat.drawn); kernel_rfl)
                    | ((with_reducible apply DSat.run (X := X64)); exact rfl; (first | exact True.intro | (exact phi) | skip))
                    | ((with_reducible apply DSat.fin); kernel_rfl) | fail)
                have hj0 : 0 + (j : Int).toNat = j := by omega
                refine Sat.back (j + 1, rs ++ [(⟨nameR (0 + (j : Int).toNat), rkM (rl.getD ((j : Int).toNat) (0, 0)).1 acc.length acc.length, 1 + ((rl.getD ((j : Int).toNat) (0, 0)).2.toNat : Int) % ((rkM (rl.getD ((j : Int).toNat) (0, 0)).1 acc.length acc.length).length : Int)⟩ : RoleL)]) [(5, some 9)] rfl ?_ ?_ ?_
                · (repeat' (first | exact AllP.nil | with_reducible refine AllP.cons ?_ ?_)) <;> first | with_reducible exact rfl | exact Int.natCast_add_one _ | (show rs.length + 1 = (rs ++ [(⟨nameR (0 + (j : Int).toNat), rkM (rl.getD ((j : Int).toNat) (0, 0)).1 acc.length acc.length, 1 + ((rl.getD ((j : Int).toNat) (0, 0)).2.toNat : Int) % ((rkM (rl.getD ((j : Int).toNat) (0, 0)).1 acc.length acc.length).length : Int)⟩ : RoleL)]).length; simp; done) | exact roles_pure rs (⟨nameR (0 + (j : Int).toNat), rkM (rl.getD ((j : Int).toNat) (0, 0)).1 acc.length acc.length, 1 + ((rl.getD ((j : Int).toNat) (0, 0)).2.toNat : Int) % ((rkM (rl.getD ((j : Int).toNat) (0, 0)).1 acc.length acc.length).length : Int)⟩ : RoleL) | (intro z hz; exact roles_snoc rs (⟨nameR (0 + (j : Int).toNat), rkM (rl.getD ((j : Int).toNat) (0, 0)).1 acc.length acc.length, 1 + ((rl.getD ((j : Int).toNat) (0, 0)).2.toNat : Int) % ((rkM (rl.getD ((j : Int).toNat) (0, 0)).1 acc.length acc.length).length : Int)⟩ : RoleL) z hz) | (show _ = (rs ++ [(⟨nameR (0 + (j : Int).toNat), rkM (rl.getD ((j : Int).toNat) (0, 0)).1 acc.length acc.length, 1 + ((rl.getD ((j : Int).toNat) (0, 0)).2.toNat : Int) % ((rkM (rl.getD ((j : Int).toNat) (0, 0)).1 acc.length acc.length).length : Int)⟩ : RoleL)]).length; simp [EV.len, EV.sub]; done) | (refine ⟨rfl, rfl, rfl, ?_⟩; show _ = (rs ++ [(⟨nameR (0 + (j : Int).toNat), rkM (rl.getD ((j : Int).toNat) (0, 0)).1 acc.length acc.length, 1 + ((rl.getD ((j : Int).toNat) (0, 0)).2.toNat : Int) % ((rkM (rl.getD ((j : Int).toNat) (0, 0)).1 acc.length acc.length).length : Int)⟩ : RoleL)]).length; simp [EV.len, EV.sub]; done) | exact rfl | exact trivial | (intro _ _; simp [pureL, pureS, pureE]; done) | exact ⟨rfl, rfl, rfl, rfl⟩
                · refine ⟨by dsimp only; omega, by dsimp only; omega, by simp only [List.length_append, List.length_cons, List.length_nil]; omega, ?_⟩
                  dsimp only
                  rw [y3, drop_step rl (0, 0) 4 j (by omega) (by omega)]
                  conv => lhs; rw [rolesM]
                  simp only [List.append_assoc, List.cons_append, List.nil_append]
                  rw [hj0]
                  rfl
                · dsimp only; omega
          · intro h
            exfalso
            have hq : decide ((j : Int) < ((rawRoles rl).len : Int)) = true := decide_eq_true (by show (j : Int) < (rl.length : Int); omega)
            have hq2 : decide ((j : Int) < 4) = true := decide_eq_true (by omega)
            rw [hq, hq2] at h
            cases h
        · have he : 4 ≤ j ∨ rl.length ≤ j := by omega
          rw [drop_end rl 4 j he] at y3
          have y4 : rolesM acc.length 0 (rl.take 4) = rs := by rw [y3]; exact List.append_nil _
          repeat' (first
              | ((with_reducible apply Sat.run (X := X64)); exact rfl; (first | exact True.intro | (exact phi) | skip))
              | ((with_reducible apply Sat.drawn); kernel_rfl)
              | ((with_reducible apply DSat.run (X := X64)); exact rfl; (first | exact True.intro | (exact phi) | skip))
              | ((with_reducible apply DSat.fin); kernel_rfl) | fail)
          with_reducible apply Sat.cond
          · exact rfl
          · intro h
            exfalso
            rcases he with he | he
            · rw [decide_eq_false (show ¬ (j : Int) < 4 by omega)] at h
              revert h
              cases decide ((j : Int) < ((rawRoles rl).len : Int)) <;> exact fun h => (by cases h)
            · rw [decide_eq_false (show ¬ (j : Int) < ((rawRoles rl).len : Int) by show ¬ (j : Int) < (rl.length : Int); omega)] at h
              cases h
          intro h
          clear h
          repeat' (first
              | ((with_reducible apply Sat.run (X := X64)); exact rfl; (first | exact True.intro | (exact phi) | skip))
              | ((with_reducible apply Sat.drawn); kernel_rfl)
              | ((with_reducible apply DSat.run (X := X64)); exact rfl; (first | exact True.intro | (exact phi) | skip))
              | ((with_reducible apply DSat.fin); kernel_rfl) | fail)
          with_reducible apply Sat.cond
          · exact rfl
          · intro h
            have hR : rolesF acc.length (rl.take 4) = [⟨nameR 1, [0], 1⟩] := by
              unfold rolesF
              have h := of_decide_eq_true h
              rw [y4, decide_eq_true (by omega : rs.length = 0)]
              rfl
            rw [show rolesF acc.length (rl.take 4) = _ from hR]
            refine Sat.enter ?_
            refine Sat.one (X := X64) rfl True.intro ?_
            refine Sat.one (X := X64) rfl True.intro ?_
            refine Sat.tidy rfl ?_
            refine Sat.freezeR true 6 rfl ?_ ?_
            · (repeat' (first | exact AllP.nil | with_reducible refine AllP.cons ?_ ?_)) <;> first | exact rfl | exact trivial | exact .inl ⟨rfl, rfl, rfl⟩ | (intro _ _; simp [pureL, pureS, pureE]; done) | (intro _ _; exact rfl) | (intro _; exact rfl) | (intro _; exact trivial) | (intro _; exact .inl ⟨rfl, rfl, rfl⟩) | (intro _ _ _; simp [pureL, pureS, pureE]; done) | exact ⟨rfl, rfl, rfl, rfl⟩ | (intro _; exact ⟨rfl, rfl, rfl, rfl⟩)
            refine Sat.one (X := X64) rfl True.intro ?_
            refine Sat.one (X := X64) rfl True.intro ?_
            refine Sat.one (X := X64) rfl True.intro ?_
            refine Sat.runN (X := X64) 3 rfl True.intro ?_
            refine Sat.enter ?_
            refine Sat.tidy rfl ?_
            refine Sat.freezeR true 7 rfl ?_ ?_
            · (repeat' (first | exact AllP.nil | with_reducible refine AllP.cons ?_ ?_)) <;> first | exact rfl | exact trivial | exact .inl ⟨rfl, rfl, rfl⟩ | (intro _ _; simp [pureL, pureS, pureE]; done) | (intro _ _; exact rfl) | (intro _; exact rfl) | (intro _; exact trivial) | (intro _; exact .inl ⟨rfl, rfl, rfl⟩) | (intro _ _ _; simp [pureL, pureS, pureE]; done) | exact ⟨rfl, rfl, rfl, rfl⟩ | (intro _; exact ⟨rfl, rfl, rfl, rfl⟩) | (intro z hz; rcases z with _ | _ | _ | _ | z <;> first | rfl | (exfalso; omega)) | (intro z hz; rcases z with _ | _ | _ | _ | z <;> first | exact ⟨trivial, trivial⟩ | exact ⟨by simp [pureS, pureE], trivial⟩ | (exfalso; omega)) | (intro z hz; have hz : z < 1 := hz; obtain rfl : z = 0 := (by omega); first | rfl | (simp [nthL, pureL, pureS, pureE]; done) | exact ⟨trivial, by simp [pureS, pureE], trivial, trivial⟩)
            refine Sat.freezeR true 3 rfl ?_ ?_
            · (repeat' (first | exact AllP.nil | with_reducible refine AllP.cons ?_ ?_)) <;> first | exact rfl | exact trivial | exact .inl ⟨rfl, rfl, rfl⟩ | (intro _ _; simp [pureL, pureS, pureE]; done) | (intro _ _; exact rfl) | (intro _; exact rfl) | (intro _; exact trivial) | (intro _; exact .inl ⟨rfl, rfl, rfl⟩) | (intro _ _ _; simp [pureL, pureS, pureE]; done) | exact ⟨rfl, rfl, rfl, rfl⟩ | (intro _; exact ⟨rfl, rfl, rfl, rfl⟩) | (intro z hz; rcases z with _ | _ | _ | _ | z <;> first | rfl | (exfalso; omega)) | (intro z hz; rcases z with _ | _ | _ | _ | z <;> first | exact ⟨trivial, trivial⟩ | exact ⟨by simp [pureS, pureE], trivial⟩ | (exfalso; omega)) | (intro z hz; have hz : z < 1 := hz; obtain rfl : z = 0 := (by omega); first | rfl | (simp [nthL, pureL, pureS, pureE]; done) | exact ⟨trivial, by simp [pureS, pureE], trivial, trivial⟩)
            repeat' (first
                | ((with_reducible apply Sat.run (X := X64)); exact rfl; (first | exact True.intro | (exact phi) | skip))
                | ((with_reducible apply Sat.drawn); kernel_rfl)
                | ((with_reducible apply DSat.run (X := X64)); exact rfl; (first | exact True.intro | (exact phi) | skip))
                | ((with_reducible apply DSat.fin); kernel_rfl)
                | ((with_reducible apply Sat.cond_t); exact rfl)
                | ((with_reducible apply Sat.cond_f); exact rfl)
                | ((with_reducible apply Sat.cond_pt); exact rfl; (try dsimp only [V.EV.sub, V.EV.len]); first | assumption | omega)
                | ((with_reducible apply Sat.cond_pf); exact rfl; (try dsimp only [V.EV.sub, V.EV.len]); first | assumption | omega)
                | ((with_reducible apply Sat.cond_p); exact rfl; all_goals intro h)
                | ((with_reducible apply Sat.cond); exact rfl; all_goals intro h) | fail)
            refine Sat.end1 rfl rfl rfl True.intro (.agg _ _ (.cons _ _ _ _ (.refl _ trivial) (.cons _ _ _ _ (.refl _ trivial) (.cons _ _ _ _ (.refl _ purX) (.cons _ _ _ _ (.gx _ 1 3 _ _ (.refl _ ?_) ?_) .nil))))) (by first | exact .inl rfl | exact .inr rfl) (fun _ h => h)
            · intro i hi
              rcases i with _ | i
              · exact ⟨trivial, by simp [pureS, pureE], trivial, trivial⟩
              · omega
            · intro i hi
              rcases i with _ | i
              · rfl
              · omega
          · intro h
            have hR : rolesF acc.length (rl.take 4) = rs := by
              unfold rolesF
              have h := of_decide_eq_false h
              rw [y4, decide_eq_false (by omega : ¬ rs.length = 0)]
              rfl
            rw [show rolesF acc.length (rl.take 4) = _ from hR]
            refine Sat.runN (X := X64) 3 rfl True.intro ?_
            refine Sat.enter ?_
            refine Sat.tidy rfl ?_
            refine Sat.freezeR true 5 rfl ?_ ?_
            · (repeat' (first | exact AllP.nil | with_reducible refine AllP.cons ?_ ?_)) <;> first | exact rfl | exact trivial | exact .inl ⟨rfl, rfl, rfl⟩ | (intro _ _; simp [pureL, pureS, pureE]; done) | (intro _ _; exact rfl) | (intro _; exact rfl) | (intro _; exact trivial) | (intro _; exact .inl ⟨rfl, rfl, rfl⟩) | (intro _ _ _; simp [pureL, pureS, pureE]; done) | exact ⟨rfl, rfl, rfl, rfl⟩ | (intro _; exact ⟨rfl, rfl, rfl, rfl⟩)
            refine Sat.freezeR true 3 rfl ?_ ?_
            · (repeat' (first | exact AllP.nil | with_reducible refine AllP.cons ?_ ?_)) <;> first | exact rfl | exact trivial | exact .inl ⟨rfl, rfl, rfl⟩ | (intro _ _; simp [pureL, pureS, pureE]; done) | (intro _ _; exact rfl) | (intro _; exact rfl) | (intro _; exact trivial) | (intro _; exact .inl ⟨rfl, rfl, rfl⟩) | (intro _ _ _; simp [pureL, pureS, pureE]; done) | exact ⟨rfl, rfl, rfl, rfl⟩ | (intro _; exact ⟨rfl, rfl, rfl, rfl⟩)
            repeat' (first
                | ((with_reducible apply Sat.run (X := X64)); exact rfl; (first | exact True.intro | (exact phi) | skip))
                | ((with_reducible apply Sat.drawn); kernel_rfl)
                | ((with_reducible apply DSat.run (X := X64)); exact rfl; (first | exact True.intro | (exact phi) | skip))
                | ((with_reducible apply DSat.fin); kernel_rfl)
                | ((with_reducible apply Sat.cond_t); exact rfl)
                | ((with_reducible apply Sat.cond_f); exact rfl)
                | ((with_reducible apply Sat.cond_pt); exact rfl; (try dsimp only [V.EV.sub, V.EV.len]); first | assumption | omega)
                | ((with_reducible apply Sat.cond_pf); exact rfl; (try dsimp only [V.EV.sub, V.EV.len]); first | assumption | omega)
                | ((with_reducible apply Sat.cond_p); exact rfl; all_goals intro h)
                | ((with_reducible apply Sat.cond); exact rfl; all_goals intro h) | fail)
            (refine Sat.fin (Sat.end1 rfl rfl rfl True.intro (.refl _ purX) (by first | exact .inl rfl | exact .inr rfl) (fun _ h => h)) ?_; rfl)
end Go.Proofs.YtegbdcadlmefgaaDoor
end
