import Derived.Test.YtpbomaelkpjbbaaFwDraw
import Derived.Test.YtpbomaelkpjbbaaFwTys
namespace Go.Proofs.Ytpbomaelkpjbbaa
theorem mixed : Try.prog.follows .mixedOrders = true := by kernel_rfl
end Go.Proofs.Ytpbomaelkpjbbaa

