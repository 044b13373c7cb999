/- Small words that the printed texts and the walks by hand share. Condition: none. -/
import Derived.Test.YtcflcmoblngfbaaProg
import Derived.Test.YtcflcmoblngfbaaWWords
import Derived.Test.YtcflcmoblngfbaaWMore
import Derived.Test.YtcflcmoblngfbaaWAt
import Derived.Test.YtcflcmoblngfbaaWApart
import Derived.Test.YtcflcmoblngfbaaWKept
import Derived.WalkKit
import Derived.BigQuiet
import Derived.Deep.QuietTactic
namespace Go.Proofs.Ytcflcmoblngfbaa.PK
open Go.RowKit Go.Proofs.YtcflcmoblngfbaaW.PrintWords Go.Proofs.YtcflcmoblngfbaaW.PrintLast Go.Proofs.YtcflcmoblngfbaaW.PrintMore
set_option linter.unusedVariables false
set_option linter.unusedSimpArgs false
theorem frozen_at {w w' : World} {m : Nat} {a : Addr} {b : Bool} (hq : w.drewN m = w') (h : w.frozen? a = b) : w'.frozen? a = b := by subst hq; exact h
theorem toList_length (s : ByteArray) : s.toList.length = s.size := by rw [ByteArray.toList_eq]; simp
theorem toList_nil (s : ByteArray) (h : s.size = 0) : s.toList = [] := List.eq_nil_of_length_eq_zero (by rw [toList_length, h])
end Go.Proofs.Ytcflcmoblngfbaa.PK
