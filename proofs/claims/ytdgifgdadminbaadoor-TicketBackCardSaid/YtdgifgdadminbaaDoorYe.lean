/- What a row's list of variables gives the walks: the table of powers of ten; the cell of MaxLen. Written by this session. -/
import Derived.Test.YtdgifgdadminbaaDoorRows
import Derived.Test.YtdgifgdadminbaaDoorD1
import Derived.Lib.LaidU8
import Derived.Lib.LaidTab
import Derived.MakeChecks
import Derived.Shelf.Vars
set_option linter.unusedSimpArgs false
set_option linter.unusedVariables false
set_option maxRecDepth 100000
namespace Go.Proofs.YtdgifgdadminbaaDoor
open Go.RowKit

theorem gPowType : (Tryd.prog.globals[1]?).map (·.type) = some 195 := by kernel_rfl
theorem cells195 : Tryd.prog.cellsOf 195 = 20 := by kernel_rfl
theorem cells168 : Tryd.prog.cellsOf 168 = 1 := by kernel_rfl
theorem pow_data : (Rows.laid_internal_strconv_uint64pow10 : DataW Unit) = Lib.tabData .u64 Lib.pow10Tab := by kernel_rfl
theorem env_of_row {laid : List (String × DataW Unit)} {W : World} (hp : (laid.all fun x => x.2.handleName?.isNone) = true) (hm : ("internal/strconv.uint64pow10", (Rows.laid_internal_strconv_uint64pow10 : DataW Unit)) ∈ laid)
    (hl : laidMetH Tryd.prog laid W) (hsh : W.ShapedOpen Tryd.prog) : Env W := by
  refine ⟨?_, ?_⟩
  · obtain ⟨m, hm⟩ : ∃ m, W.cell? ⟨2, 0, none⟩ = some (.int .i64 m) := Go.Proofs.cell_of_shapedOpen_int (zero := #[.int .i64 0]) (t := 3) hsh (of_decide_eq_true (by kernel_rfl)) (by kernel_rfl) rfl (by kernel_rfl) (by kernel_rfl) Tryd.underlying3
    exact ⟨m, hm⟩
  · rw [MakeChecks.laidMetH_plain _ _ _ hp] at hl
    obtain ⟨g', t', cs, fuel, p, hg', ht', hvar, hd⟩ := Lib.laidMet.reads hl hm
    obtain rfl := Option.some.inj (gPow.symm.trans hg')
    obtain rfl := Option.some.inj (gPowType.symm.trans ht')
    rw [pow_data] at hd
    unfold Lib.TabIs
    rw [hvar, ← Lib.cells_of_tab Tryd.underlying195 Tryd.underlying168 cells168 cells195 hd]
end Go.Proofs.YtdgifgdadminbaaDoor
