/-
  Inst: the library's functions, by the shelf's contracts.
-/
import Derived.Test.YtgpggoejkkhceaaDoorIG
import Derived.Test.YtgpggoejkkhceaaDoorSh
import Derived.Lib.ItoaLen
import Derived.Lib.AppendIntMem
namespace Go.Proofs.YtgpggoejkkhceaaDoor
open Go.RowKit V
set_option maxRecDepth 100000
set_option maxHeartbeats 8000000
@[reducible] def Γp : Glob := [(0, .ints .u64 Lib.pow10Tab)]
theorem gPow : Tryd.prog.globalNamed "internal/strconv.uint64pow10" = some 0 := by kernel_rfl
theorem tab_of {T : Nat → Prop} {w : World} (h : GOk Γp T w) : Lib.TabIs Tryd.prog w "internal/strconv.uint64pow10" .u64 Lib.pow10Tab := by
  obtain ⟨t, hs⟩ := h.shp 0 _ rfl
  have hr := h.rep 0 _ rfl
  have hcell : ∀ i, i < 20 → w.cell? ⟨0, i, none⟩ = some (.int .u64 (Lib.pow10Tab.getD i 0)) := by
    generalize hv : Value.pointer (some ⟨0, 0, none⟩) = v at hr
    cases hr with
    | rop e i j b o c hT hn hc hr hi hj hb =>
      simp at hv
      obtain ⟨rfl, rfl⟩ := hv
      intro i hi2
      have hlen : i < (EV.ints .u64 Lib.pow10Tab).len := by simpa [EV.len, Lib.pow10Tab_length] using hi2
      have hI := hr i hlen
      simp only [EV.items] at hI
      obtain ⟨cc, r, e1, hr1, _⟩ := hI.head rfl
      have := hc i 0 cc hlen (by simp [e1])
      cases hr1
      simpa [EV.sz] using this
  have hlen : (EV.ints .u64 Lib.pow10Tab).len * (EV.ints .u64 Lib.pow10Tab).sz = 20 := by simp [EV.len, EV.sz, Lib.pow10Tab_length]
  rw [hlen] at hs
  unfold World.shape? at hs
  split at hs
  · rename_i c elem fr hh
    simp only [Option.some.injEq, Prod.mk.injEq] at hs
    unfold Lib.TabIs World.var?
    simp only [gPow, Option.bind_some, hh]
    congr 1
    apply Array.ext
    · simp [hs.2, Lib.pow10Tab_length]
    · intro i h1 h2
      have := hcell i (by omega)
      unfold World.cell? at this
      rw [hh] at this
      simp only [Option.isSome_none, Bool.false_eq_true, if_false] at this
      rw [Array.getElem?_eq_getElem h1, Option.some.injEq] at this
      rw [this]
      have h3 : i < Lib.pow10Tab.length := by rw [Lib.pow10Tab_length]; omega
      simp [List.getD, List.getElem?_eq_getElem h3]
  · cases hs
theorem glob_of {w : World} (h : Lib.TabIs Tryd.prog w "internal/strconv.uint64pow10" .u64 Lib.pow10Tab) : GOk Γp (fun _ => False) w := by
  unfold Lib.TabIs World.var? at h
  simp only [gPow, Option.bind_some] at h
  split at h
  · rename_i c t fr hh
    simp only [Option.some.injEq] at h
    have hg : ∀ g e, gl Γp g = some e → g = 0 ∧ e = .ints .u64 Lib.pow10Tab := fun g e hge => by
      unfold Γp at hge
      simp only [gl] at hge
      split at hge
      · rename_i hb
        exact ⟨(Nat.eq_of_beq_eq_true hb).symm, by simpa using hge.symm⟩
      · cases hge
    have hcell : ∀ i, i < 20 → w.cell? ⟨0, i, none⟩ = some (.int .u64 (Lib.pow10Tab.getD i 0)) := fun i hi => by
      unfold World.cell?
      rw [hh]
      have h3 : i < Lib.pow10Tab.length := by rw [Lib.pow10Tab_length]; omega
      simp [h, List.getD, List.getElem?_eq_getElem h3]
    refine ⟨fun g e hge => ?_, fun g e hge => ?_⟩
    · obtain ⟨rfl, rfl⟩ := hg g e hge
      have hl : (EV.ints .u64 Lib.pow10Tab).len = 20 := by simp [EV.len, Lib.pow10Tab_length]
      refine .rop _ 0 0 0 0 (fun i => [.int .u64 (Lib.pow10Tab.getD i 0)]) (fun h => h) (fun i _ => rfl) (fun i j v hi hj => ?_) (fun i hi => ?_) (by rw [hl]; decide) (by decide) (block_lt_of_cell (hcell 0 (by decide)))
      · cases j with
        | zero =>
          simp only [List.getElem?_cons_zero, Option.some.injEq] at hj
          subst hj
          simpa [EV.sz] using hcell i (by omega)
        | succ j => simp at hj
      · refine .one _ _ _ _ rfl (.int _ _ ?_) .nil
        have hi' : i < 20 := by omega
        rw [Lib.pow10Tab_at i hi']
        have h5 : (10 : Nat) ^ i ≤ 10 ^ 19 := Nat.pow_le_pow_right (by decide) (by omega)
        have h6 : (10 : Nat) ^ 19 = 10000000000000000000 := by decide
        rw [h6] at h5
        generalize (10 : Nat) ^ i = q at h5
        exact inR_u64 (by omega) (by omega)
    · obtain ⟨rfl, rfl⟩ := hg g e hge
      refine ⟨t, ?_⟩
      unfold World.shape?
      rw [hh]
      simp [h, EV.len, EV.sz]
  · cases h
theorem itoa_spec (n : Int) : Fun Tryd.prog Γp 27 [.int .i64 n] (.str (Lib.itoa n)) := by
  intro T w vs hT hG ht
  obtain ⟨hn, _⟩ := ht.facts
  cases ht with
  | cons s v l vs1 hr hl =>
    cases hl
    cases hr
    obtain ⟨h0, h1⟩ := i64_iff hn
    refine (Tryd.strconv_Itoa n h0 h1 w (tab_of hG)).mono ?_
    rintro e w' ⟨rfl, k, os, rfl⟩
    have := Lib.itoa_length_le n h0 h1
    exact ⟨_, rfl, .str _ (by unfold okLen; omega), Lib.below_grow _ _ (Nat.le_refl _) k os⟩
theorem join_spec (ss : List (List UInt8)) (sep : List UInt8) (hl : (Lib.join ss sep).length ≤ 140737488355328) (hN : ss.length ≤ 140737488355328) : Fun Tryd.prog Γp 28 [.ro (.g ss.length 1 (fun i => [.str (ss.getD i [])])), .str sep] (.str (Lib.join ss sep)) := by
  intro T w vs hT hG ht
  cases ht with
  | cons s v l vs1 hr hl2 =>
    cases hl2 with
    | cons s2 v2 l2 vs2 hr2 hl3 =>
      cases hl3
      cases hr2
      have h0 : ∀ a c, ss.length = 0 → Calls Tryd.prog 28 #[.slice a 0 c, .string ⟨sep.toArray⟩] w fun e w' => ∃ v, e = .returned v ∧ Rep E0 T w' (.str (Lib.join ss sep)) v ∧ Below w.heap.size w w' := fun a c hs => by
        have hss : ss = [] := List.eq_nil_of_length_eq_zero hs
        subst hss
        refine (Tryd.strings_Join_none a c ⟨sep.toArray⟩ w).mono ?_
        rintro e w' ⟨rfl, rfl⟩
        exact ⟨_, rfl, .str _ (by simp [Lib.join_nil, okLen]), Below.refl _ _⟩
      cases hr with
      | ro0 _ hs => exact h0 none 0 (by simpa [EV.len] using hs)
      | ro1 _ a hs => exact h0 (some a) 0 (by simpa [EV.len] using hs)
      | ro _ b o n k c hT' hn hc hrr he hlk ok hb =>
        simp only [EV.len] at he hn hc hrr
        subst he
        have := Tryd.strings_Join b o k (ss.map fun l => ⟨l.toArray⟩) ⟨sep.toArray⟩ w (fun j x hx => ?_) hb (by simpa using hN) (by simpa using hlk) (by simpa [Function.comp_def] using hl)
        · simp only [List.length_map, List.map_map, Function.comp_def, List.map_id'] at this
          refine this.mono ?_
          rintro e w' ⟨rfl, hbw⟩
          exact ⟨_, rfl, .str _ (by unfold okLen; omega), hbw⟩
        · have hj : j < ss.length := by simpa using (List.getElem?_eq_some_iff.1 hx).1
          have hI := hrr j hj
          simp only [EV.items] at hI
          obtain ⟨cc, r, e1, hr1, _⟩ := hI.head rfl
          have h3 := hc j 0 cc hj (by simp [e1])
          cases hr1
          simp only [List.getElem?_map, List.getElem?_eq_getElem hj, Option.map_some, Option.some.injEq] at hx
          subst hx
          simpa [EV.sz, List.getD, List.getElem?_eq_getElem hj] using h3
end Go.Proofs.YtgpggoejkkhceaaDoor
