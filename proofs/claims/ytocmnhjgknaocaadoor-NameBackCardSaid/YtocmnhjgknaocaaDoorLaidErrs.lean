import Derived.Test.YtocmnhjgknaocaaDoorLaw
import Derived.Test.YtocmnhjgknaocaaDoorName2
set_option linter.unusedVariables false
namespace Go.Proofs.YtocmnhjgknaocaaDoor
open Go.ChangeShapes Go.WideShapes Go.ChangeAt Go.RowKit

/-- What the rows of names list. -/
abbrev laidE : List (String × DataW Unit) := [("math/bits.deBruijn32tab", Rows.laid_math_bits_deBruijn32tab), ("math/bits.deBruijn64tab", Rows.laid_math_bits_deBruijn64tab), ("internal/strconv.uint64pow10", Rows.laid_internal_strconv_uint64pow10), ("strconv.ErrRange", Rows.laid_strconv_ErrRange), ("strconv.ErrSyntax", Rows.laid_strconv_ErrSyntax)]
set_option maxRecDepth 100000 in
theorem doorE_met (os : Os) (args : Array Value) : laidMetH Tryd.prog laidE ((World.doorLaid Tryd.prog 62 os).forCall (fun _ _ => 0) ⟨#[], args, []⟩).memory :=
  laidMetH_of_parts3 (fuel := 8) (laidMet_of_run' 8 (by kernel_rfl) (by kernel_rfl)) (by kernel_rfl) (by kernel_rfl)
theorem Tryd.gES : Tryd.prog.globalNamed "strconv.ErrSyntax" = some 2 := by kernel_rfl
theorem Tryd.tES : (Tryd.prog.globals[2]?).map (·.type) = some 138 := by kernel_rfl
theorem Tryd.gER : Tryd.prog.globalNamed "strconv.ErrRange" = some 3 := by kernel_rfl
theorem Tryd.tER : (Tryd.prog.globals[3]?).map (·.type) = some 138 := by kernel_rfl
theorem Tryd.rowErr (u : TypeId) (h : Tryd.prog.typeName? 3 u = some "*errors.errorString") : u = 214 := by
  have star : "*errors.errorString" = "*" ++ "errors.errorString" := by decide
  rw [star] at h
  exact typeName_ptr_named (nm := "errors.errorString") (by rw [← star]; kernel_rfl) (by kernel_rfl) (by decide) u h
theorem Tryd.cErrS : Tryd.prog.cellsOf 216 = 1 := by kernel_rfl
theorem Tryd.cStr : Tryd.prog.cellsOf 9 = 1 := by kernel_rfl
theorem err_of_laid {W : World} {n : String} {text : List UInt8} {r : List (String × DataW Unit)} {g : Nat}
    (h : laidMet Tryd.prog ((n, .iface "*errors.errorString" (.ptr (.agg [.lit (.string text)]))) :: r) W) (hg : Tryd.prog.globalNamed n = some g) (ht : (Tryd.prog.globals[g]?).map (·.type) = some 138) :
    ∃ ev, W.cell? ⟨g, 0, none⟩ = some ev ∧ (ev = .nilIface ∨ ∃ te pe, ev = .iface te pe) := by
  obtain ⟨a, s, hv, _⟩ := laid_sentinel h hg ht Tryd.underlying138 Tryd.rowErr Tryd.underlying214 Tryd.underlying216 rfl rfl Tryd.underlying9 Tryd.cErrS Tryd.cStr
  exact ⟨_, by simpa using World.var?_cell hg hv 0, .inr ⟨_, _, rfl⟩⟩
theorem env_of_laid {W : World} (h : laidMetH Tryd.prog laidE W) : Env W := by
  rw [MakeChecks.laidMetH_plain _ _ _ (by kernel_rfl)] at h
  have h3 := h.tail.tail
  refine ⟨?_, ?_, ?_⟩
  · exact Lib.tabIs_of_head Tryd.gPow Tryd.tPow Tryd.underlying199 Tryd.underlying22 Tryd.cU64 Tryd.cPow h3
  · exact err_of_laid h3.tail.tail Tryd.gES Tryd.tES
  · exact err_of_laid h3.tail Tryd.gER Tryd.tER

end Go.Proofs.YtocmnhjgknaocaaDoor
