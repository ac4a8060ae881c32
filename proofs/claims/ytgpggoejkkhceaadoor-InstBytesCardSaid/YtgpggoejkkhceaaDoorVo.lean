/-
  A walk by abstract values: the rules.
-/
import Derived.Test.YtgpggoejkkhceaaDoorVn
namespace Go.Proofs.YtgpggoejkkhceaaDoor.V
open Go.RowKit

def AllP : List Prop → Prop
  | [] => True
  | p :: r => p ∧ AllP r
theorem AllP.nil : AllP [] := trivial
theorem AllP.cons {p : Prop} {r : List Prop} (h : p) (hr : AllP r) : AllP (p :: r) := ⟨h, hr⟩
theorem AllP.all : ∀ {φ : List Prop}, AllP φ → All φ
  | [], _, p, hp => by cases hp
  | q :: r, h, p, hp => by
    rcases List.mem_cons.1 hp with rfl | hp
    · exact h.1
    · exact AllP.all h.2 p hp

section
variable {X : IntKind → Bool} {C : Ctx} {Q0 : Exit → Act → World → Prop} {F F' : Tr} {M M' : Mem} {ids ids' : List Nat} {k : List Kont}

theorem Kq_exit_blk {i j : Nat} {a : Act} {w : World} {Q : Exit → Act → World → Prop} : Exit.inBlock j Q (.exit i) a w = if i = j then Q .normal a w else Q (.exit i) a w := rfl

theorem runC_ok : ∀ (n : Nat) {c c' : Cfg} {φ φ' : List Prop}, runC X C.P C.Γ C.N n c φ = some (c', φ') → All φ' → Sat C Q0 c' → All φ ∧ Sat C Q0 c
  | 0, c, c', φ, φ', h, hφ, hs => by
    simp only [runC, Option.some.injEq, Prod.mk.injEq] at h
    obtain ⟨rfl, rfl⟩ := h
    exact ⟨hφ, hs⟩
  | n + 1, .reg full rest F M ids k, c', φ, φ', h, hφ, hs => by
    simp only [runC] at h
    split at h
    · cases h
    · rename_i F' M' ids' φ1 hr
      obtain ⟨h1, h2⟩ := runC_ok n h hφ hs
      obtain ⟨h3, h4⟩ := runR_ok (Q := Kq C.P Q0 k) rest hr h1 (fun U E a w hsup hst => wpList_nil (h2 U E a w hsup hst))
      exact ⟨h3, h4⟩
    · rename_i o r F' M' ids' φ1 hr
      simp only [Option.some.injEq, Prod.mk.injEq] at h
      obtain ⟨rfl, rfl⟩ := h
      obtain ⟨h3, h4⟩ := runR_ok (Q := Kq C.P Q0 k) rest hr hφ (fun U E a w hsup hst => hs U E a w hsup hst)
      exact ⟨h3, h4⟩
  | n + 1, .qreg full rest F M ids k, c', φ, φ', h, hφ, hs => by
    simp only [runC] at h
    split at h
    · cases h
    · rename_i F' M' ids' φ1 hr
      obtain ⟨h1, h2⟩ := runC_ok n h hφ hs
      have hq := fun (w : World) => runQ_ok (Q := fun a' => ∀ w', Below w.heap.size w w' → Kq C.P Q0 k .normal a' w') rest hr h1
      obtain ⟨e1, e2, h3, _⟩ := hq default
      dsimp only at e1 e2
      subst e1
      subst e2
      refine ⟨h3, fun U E a w hsup hst => ?_⟩
      obtain ⟨_, _, _, h4⟩ := hq w
      exact h4 U E w (fun a' hst' => wpQuiet_nil fun w' hw' => h2 U E a' w' hsup (hst'.below hw')) a hst
    · rename_i o r F' M' ids' φ1 hr
      simp only [Option.some.injEq, Prod.mk.injEq] at h
      obtain ⟨rfl, rfl⟩ := h
      have hq := fun (w : World) => runQ_ok (Q := fun a' => ∀ w', Below w.heap.size w w' → Kq C.P Q0 k .normal a' w') rest hr hφ
      obtain ⟨e1, e2, h3, _⟩ := hq default
      dsimp only at e1 e2
      subst e1
      subst e2
      refine ⟨h3, fun U E a w hsup hst => ?_⟩
      obtain ⟨_, _, _, h4⟩ := hq w
      exact h4 U E w (fun a' hst' => hs U E a' w hsup hst') a hst
  | n + 1, .code c F M ids k, c', φ, φ', h, hφ, hs => by
    simp only [runC] at h
    split at h
    · obtain ⟨h1, h2⟩ := runC_ok n h hφ hs
      exact ⟨h1, fun U E a w hsup hst => wp_skip (h2 U E a w hsup hst)⟩
    · obtain ⟨h1, h2⟩ := runC_ok n h hφ hs
      exact ⟨h1, fun U E a w hsup hst => wp_label (h2 U E a w hsup hst)⟩
    · obtain ⟨h1, h2⟩ := runC_ok n h hφ hs
      exact ⟨h1, fun U E a w hsup hst => wp_seq (h2 U E a w hsup hst)⟩
    · obtain ⟨h1, h2⟩ := runC_ok n h hφ hs
      exact ⟨h1, fun U E a w hsup hst => wp_block (h2 U E a w hsup hst)⟩
    · obtain ⟨h1, h2⟩ := runC_ok n h hφ hs
      exact ⟨h1, fun U E a w hsup hst => wp_region_lit (h2 U E a w hsup hst)⟩
    · obtain ⟨h1, h2⟩ := runC_ok n h hφ hs
      exact ⟨h1, fun U E a w hsup hst => wp_exit (h2 U E a w hsup hst)⟩
    · obtain ⟨h1, h2⟩ := runC_ok n h hφ hs
      exact ⟨h1, fun U E a w hsup hst => wp_ret (h2 U E a w hsup hst)⟩
    · simp only [Option.some.injEq, Prod.mk.injEq] at h
      obtain ⟨rfl, rfl⟩ := h
      exact ⟨hφ, hs⟩
  | n + 1, .ext e F M ids k, c', φ, φ', h, hφ, hs => by
    simp only [runC] at h
    split at h
    · obtain ⟨h1, h2⟩ := runC_ok n h hφ hs
      exact ⟨h1, fun U E a w hsup hst => h2 U E a w hsup hst⟩
    · obtain ⟨h1, h2⟩ := runC_ok n h hφ hs
      exact ⟨h1, fun U E a w hsup hst => h2 U E a w hsup hst⟩
    · obtain ⟨h1, h2⟩ := runC_ok n h hφ hs
      exact ⟨h1, fun U E a w hsup hst => h2 U E a w hsup hst⟩
    · split at h
      · rename_i hij
        have := Nat.eq_of_beq_eq_true hij
        subst this
        obtain ⟨h1, h2⟩ := runC_ok n h hφ hs
        refine ⟨h1, fun U E a w hsup hst => ?_⟩
        have := h2 U E a w hsup hst
        simp only [Kq, Ex.out, Kq_exit_blk, if_true]
        exact this
      · rename_i hij
        have hne := Nat.ne_of_beq_eq_false hij
        obtain ⟨h1, h2⟩ := runC_ok n h hφ hs
        refine ⟨h1, fun U E a w hsup hst => ?_⟩
        have := h2 U E a w hsup hst
        simp only [Kq, Ex.out, Kq_exit_blk, if_neg hne]
        exact this
    · obtain ⟨h1, h2⟩ := runC_ok n h hφ hs
      exact ⟨h1, fun U E a w hsup hst => h2 U E a w hsup hst⟩
    · obtain ⟨h1, h2⟩ := runC_ok n h hφ hs
      exact ⟨h1, fun U E a w hsup hst => h2 U E a w hsup hst⟩
    · obtain ⟨h1, h2⟩ := runC_ok n h hφ hs
      exact ⟨h1, fun U E a w hsup hst => h2 U E a w hsup hst⟩
    · obtain ⟨h1, h2⟩ := runC_ok n h hφ hs
      exact ⟨h1, fun U E a w hsup hst => h2 U E a w hsup hst⟩
    · simp only [Option.some.injEq, Prod.mk.injEq] at h
      obtain ⟨rfl, rfl⟩ := h
      exact ⟨hφ, hs⟩

/-- On, as far as it goes. -/
theorem Sat.run {c c' : Cfg} {φ : List Prop} (h : runS X C c = some (c', φ)) (hφ : AllP φ) (hn : Sat C Q0 c') : Sat C Q0 c := by
  unfold runS at h
  split at h
  · split at h
    · rename_i c1 φ1 hr
      rw [fP_eq] at h
      simp only [Option.some.injEq, Prod.mk.injEq] at h
      obtain ⟨rfl, rfl⟩ := h
      exact (runC_ok 1000 hr hφ.all hn).2
    · cases h
  · cases h

/-- A test. -/
theorem Sat.cond {c : Operand} {x y : Code} {b : Bool} (hb : opd C.Γ F c = some (.bool b)) (h1 : b = true → Sat C Q0 (.code x F M ids k)) (h2 : b = false → Sat C Q0 (.code y F M ids k)) : Sat C Q0 (.code (.cond c x y) F M ids k) := by
  intro U E a w hsup hst
  have hr := opd_rep hst.vw hb
  generalize hv : a.eval c = v at hr
  cases hr
  exact wp_cond_split hv (fun h => h1 h U E a w hsup hst) (fun h => h2 h U E a w hsup hst)
theorem Sat.cond_t {c : Operand} {x y : Code} (hb : opd C.Γ F c = some (.bool true)) (h1 : Sat C Q0 (.code x F M ids k)) : Sat C Q0 (.code (.cond c x y) F M ids k) := Sat.cond hb (fun _ => h1) (fun h => by cases h)
theorem Sat.cond_f {c : Operand} {x y : Code} (hb : opd C.Γ F c = some (.bool false)) (h2 : Sat C Q0 (.code y F M ids k)) : Sat C Q0 (.code (.cond c x y) F M ids k) := Sat.cond hb (fun h => by cases h) (fun _ => h2)
theorem Sat.cond_p {c : Operand} {x y : Code} {p : Prop} {i : Decidable p} (hb : opd C.Γ F c = some (.bool (@decide p i))) (h1 : p → Sat C Q0 (.code x F M ids k)) (h2 : ¬ p → Sat C Q0 (.code y F M ids k)) : Sat C Q0 (.code (.cond c x y) F M ids k) :=
  Sat.cond hb (fun h => h1 (of_decide_eq_true h)) (fun h => h2 (of_decide_eq_false h))
theorem Sat.cond_pt {c : Operand} {x y : Code} {p : Prop} {i : Decidable p} (hb : opd C.Γ F c = some (.bool (@decide p i))) (hp : p) (h1 : Sat C Q0 (.code x F M ids k)) : Sat C Q0 (.code (.cond c x y) F M ids k) :=
  Sat.cond_p hb (fun _ => h1) (fun h => absurd hp h)
theorem Sat.cond_pf {c : Operand} {x y : Code} {p : Prop} {i : Decidable p} (hb : opd C.Γ F c = some (.bool (@decide p i))) (hp : ¬ p) (h2 : Sat C Q0 (.code y F M ids k)) : Sat C Q0 (.code (.cond c x y) F M ids k) :=
  Sat.cond_p hb (fun h => absurd h hp) (fun _ => h2)

/-- A region that draws its order and leaves memory alone. -/
theorem Sat.quiet {id : Nat} {ops : List Oper} (hm : C.P.follows .mixedOrders = true) (hB : Region.lexB .any ops.toArray = true) (h : Sat C Q0 (.qreg ops ops F M ids k)) : Sat C Q0 (.code (.region id ⟨ops⟩ true) F M ids k) := by
  intro U E a w hsup hst
  refine wp_region_quiet (ops := ops.toArray) (C := fun w' => Below w.drew.heap.size w.drew w') hm hB (Below.refl _ _) ?_
  have := h U E a w.drew hsup hst.drew
  simpa using this

/-! ### Guards -/
theorem Sat.gon {full rest : List Oper} {d : Option Tmp} {op : Op} {type : TypeId} {pos : String} {after : Array Edge} {j : Nat} {want : Bool} {H : Prop} (hH : guardH F full j want = some H) (hh : H) (h : Sat C Q0 (.reg full (⟨d, op, type, pos, after, none⟩ :: rest) F M ids k)) :
    Sat C Q0 (.reg full (⟨d, op, type, pos, after, some (j, want)⟩ :: rest) F M ids k) := by
  intro U E a w hsup hst
  have hy := (guardH_ok (full := full) hst hH).2 hh
  have := h U E a w hsup hst
  unfold wpList at this ⊢
  simp only [Region.wanted, if_true] at this
  simp only [Region.wanted, hy, if_true]
  exact this
theorem Sat.goff {full rest : List Oper} {d : Option Tmp} {op : Op} {type : TypeId} {pos : String} {after : Array Edge} {j : Nat} {want : Bool} {H : Prop} (hH : guardH F full j want = some H) (hh : ¬ H) (hp : putD C.N F d none some = some F') (h : Sat C Q0 (.reg full rest F' M ids k)) :
    Sat C Q0 (.reg full (⟨d, op, type, pos, after, some (j, want)⟩ :: rest) F M ids k) := by
  intro U E a w hsup hst
  have hy : ¬ (yielded full.toArray a.tmps j == some want) = true := fun hy => hh ((guardH_ok (full := full) hst hH).1 hy)
  obtain ⟨F1, h1, h2⟩ := putD_inv hp
  cases h1
  unfold wpList
  simp only [Region.wanted, hy]
  exact h U E _ w hsup (hst.putD h2 fun s' hs' => by cases hs')
theorem Sat.gfork {full rest : List Oper} {d : Option Tmp} {op : Op} {type : TypeId} {pos : String} {after : Array Edge} {j : Nat} {want : Bool} {H : Prop} (hH : guardH F full j want = some H) (hp : putD C.N F d none some = some F')
    (h1 : H → Sat C Q0 (.reg full (⟨d, op, type, pos, after, none⟩ :: rest) F M ids k)) (h2 : ¬ H → Sat C Q0 (.reg full rest F' M ids k)) : Sat C Q0 (.reg full (⟨d, op, type, pos, after, some (j, want)⟩ :: rest) F M ids k) := by
  rcases Classical.em H with hh | hh
  · exact Sat.gon hH hh (h1 hh)
  · exact Sat.goff hH hh hp (h2 hh)

/-! ### Views -/
mutual
/-- What a value may be seen as: a slice of the call's own as one that is read. -/
inductive Conv (M : Mem) : SV → SV → Prop
  | refl (s : SV) (h : pureS s) : Conv M s s
  | nils (e : EV) (h : e.len = 0) : Conv M .nils (.ro e)
  | row (id base sz sub len : Nat) (e : EV) (h : runAt M id base = some e) (hz : e.sz = sz) (hl : sub + len ≤ e.len) (hp : pureE e) : Conv M (.row id base sz sub len) (.ro (e.sub sub len))
  | all (id base sz len : Nat) (e : EV) (h : runAt M id base = some e) (hz : e.sz = sz) (hl : len = e.len) (hp : pureE e) : Conv M (.row id base sz 0 len) (.ro e)
  | agg (l l' : List SV) (h : Convs M l l') : Conv M (.agg l) (.agg l')
  | tup (l l' : List SV) (h : Convs M l l') : Conv M (.tup l) (.tup l')
  | may (g : Prop) (s s' : SV) (hg : g) (h : Conv M s s') : Conv M (.may g s) s'
  | eq (s s' s2 : SV) (h : Conv M s s') (e : s' = s2) : Conv M s s2
  | gx (s : SV) (n sz : Nat) (f g : Nat → List SV) (h : Conv M s (.ro (.g n sz f))) (he : ∀ i, i < n → f i = g i) : Conv M s (.ro (.g n sz g))
inductive Convs (M : Mem) : List SV → List SV → Prop
  | nil : Convs M [] []
  | cons (s s' : SV) (l l' : List SV) (h : Conv M s s') (hl : Convs M l l') : Convs M (s :: l) (s' :: l')
end
end
end Go.Proofs.YtgpggoejkkhceaaDoor.V
