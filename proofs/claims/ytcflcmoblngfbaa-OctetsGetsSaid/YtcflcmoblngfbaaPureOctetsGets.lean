/- OctetsGets: for all bytes, Get tells what the document tells. Condition: none. -/
import Derived.Test.YtcflcmoblngfbaaPL2x1
import Derived.Test.YtcflcmoblngfbaaKr
namespace Go.Proofs.Ytcflcmoblngfbaa.Pure
open Go.RowKit Go.Proofs.Ytcflcmoblngfbaa.PL2 Go.Proofs.YtcflcmoblngfbaaW.PrintWords Go.Proofs.YtcflcmoblngfbaaW.PrintLast Go.Proofs.Ytcflcmoblngfbaa.PK
theorem OctetsGets : primerlaw01_OctetsGets.Pure := by
  intro s hs
  refine ⟨25, ?_⟩
  unfold primerlaw01_OctetsGets.f primerlaw01_speaks.f octets_Get.f
  simp only [Option.bind_some, if_true]
  rw [refGet_eq s (by omega) 25 (by omega)]
  simp
end Go.Proofs.Ytcflcmoblngfbaa.Pure
