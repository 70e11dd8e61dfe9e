/-
The program's constants have the values of the document. Conditions: none.
-/
import Derived.Test.YtgibfnbfhcdhjaaPFnExactConstantsx1
namespace Go.Proofs.Ytgibfnbfhcdhjaa.Pure
open Go.RowKit Go.Proofs.Ytgibfnbfhcdhjaa.PFnExactConstants Go.Proofs.YtgibfnbfhcdhjaaW.PrintWords Go.Proofs.YtgibfnbfhcdhjaaW.PrintLast Go.Proofs.YtgibfnbfhcdhjaaW.PrintMore

theorem FnExactConstants : laws_FnExactConstants.Pure := rfl

end Go.Proofs.Ytgibfnbfhcdhjaa.Pure
