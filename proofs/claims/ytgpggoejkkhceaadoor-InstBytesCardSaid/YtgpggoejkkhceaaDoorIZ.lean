/-
  Inst: the tables, as the rows list them.
-/
import Derived.Test.YtgpggoejkkhceaaDoorIK
import Derived.Test.YtgpggoejkkhceaaDoorCards
import Derived.Test.YtgpggoejkkhceaaDoorTie
import Derived.Lib.LaidTab
import Derived.MakeChecks
import Derived.Stop.LaidErr
namespace Go.Proofs.YtgpggoejkkhceaaDoor
open Go.RowKit Go.ChangeShapes Go.WideShapes V
set_option maxRecDepth 100000
theorem own : ownKnob Tryd.prog.godebug = none := by kernel_rfl
theorem laidOut : laidOutB Tryd.prog = true := by kernel_rfl
def tabs_laid : List (String × DataW Unit) := [("math/bits.deBruijn32tab", Rows.laid_math_bits_deBruijn32tab), ("math/bits.deBruijn64tab", Rows.laid_math_bits_deBruijn64tab), ("internal/strconv.uint64pow10", Rows.laid_internal_strconv_uint64pow10)]
theorem pow_data : (Rows.laid_internal_strconv_uint64pow10 : DataW Unit) = Lib.tabData .u64 Lib.pow10Tab := rfl
theorem tabs_glob (W : World) (h : laidMetH Tryd.prog tabs_laid W) : GOk Γp (fun _ => False) W := by
  have h1 : laidMet Tryd.prog tabs_laid W := by
    rw [MakeChecks.laidMetH_plain _ _ _ (by kernel_rfl)] at h
    exact h
  have h2 := h1.tail.tail
  rw [pow_data] at h2
  exact glob_of (Lib.tabIs_of_head (rest := []) gPow (by kernel_rfl) Tryd.underlying92 Tryd.underlying83 (by kernel_rfl) (by kernel_rfl) h2)
theorem door_met (os : Os) (args : Array Value) : laidMetH Tryd.prog tabs_laid ((World.doorLaid Tryd.prog 300 os).forCall (fun _ _ => 0) ⟨#[], args, []⟩).memory :=
  laidMetH_of_parts3 (fuel := 8) (laidMet_of_run' 8 (by kernel_rfl) (by kernel_rfl)) (by kernel_rfl) (by kernel_rfl)
end Go.Proofs.YtgpggoejkkhceaaDoor
