/-
  stockyardmake.SameInts: are two lists of numbers equal?
-/
import Derived.Test.YtnjhipnfhapngaaSame
namespace Go.Proofs.Ytnjhipnfhapngaa
set_option linter.unusedVariables false
set_option linter.unusedSimpArgs false
set_option linter.unnecessarySimpa false
open Go.RowKit Go.Lib

end Go.Proofs.Ytnjhipnfhapngaa
