/- OctetsPuts: for every integer, Put makes the bytes that the document tells, and Get tells the integer again, whatever bytes follow. Condition: none. -/
import Derived.Test.YtcflcmoblngfbaaPL1x1
import Derived.Test.YtcflcmoblngfbaaKn
import Derived.DataShut
namespace Go.Proofs.Ytcflcmoblngfbaa.Pure
open Go.RowKit Go.Proofs.Ytcflcmoblngfbaa.PL1 Go.Proofs.YtcflcmoblngfbaaW.PrintWords Go.Proofs.YtcflcmoblngfbaaW.PrintLast Go.Proofs.Ytcflcmoblngfbaa.PK
theorem OctetsPuts : primerlaw01_OctetsPuts.Pure := by
  intro n t hn ht
  have hn' : -9223372036854775808 ≤ n ∧ n ≤ 9223372036854775807 := by
    have := (Lit.wf_int_iff .i64 n).mp hn
    simpa [IntKind.min, IntKind.max, IntKind.signed, IntKind.bits] using this
  refine ⟨11, ?_⟩
  unfold primerlaw01_OctetsPuts.f primerlaw01_speaks.f octets_Put.f
  simp only [Option.bind_some, if_true]
  rw [refPut_eq n hn' 11 (by omega)]
  simp only [Option.bind_some, if_true]
  by_cases h0 : (strOfNums (putL n)).toList = ([] : List UInt8)
  · rw [if_pos h0]
  · rw [if_neg h0]
    by_cases h1 : (t.size : Int) > 1000
    · rw [if_pos h1]
    · have hl := putL_len n
      have hfit : -9007199254740992 ≤ n ∧ n ≤ 9007199254740992 := by
        refine Decidable.byContradiction fun hc => h0 ?_
        unfold putL
        rw [if_pos (by omega), ByteArray.toList_eq]
        rfl
      have hg := get_put n hfit (strOfNums (putL n) ++ t) t (by rw [bytesOf_append, bytes_put])
      rw [if_neg h1, if_pos (by rw [size_put]; omega)]
      unfold octets_Get.f
      rw [Option.bind_some, hg, if_pos rfl, if_pos (by rw [size_put])]
      rfl
end Go.Proofs.Ytcflcmoblngfbaa.Pure
