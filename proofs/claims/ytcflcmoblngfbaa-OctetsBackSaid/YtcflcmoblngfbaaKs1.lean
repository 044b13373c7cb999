/- primerlaw01.speaks by hand: it answers yes. Condition: none. -/
import Derived.Test.YtcflcmoblngfbaaKo
import Derived.Test.YtcflcmoblngfbaaKg
namespace Go.Proofs.Ytcflcmoblngfbaa.PK
open Go.RowKit Go.Proofs.YtcflcmoblngfbaaW.PrintWords Go.Proofs.YtcflcmoblngfbaaW.PrintLast Go.Proofs.YtcflcmoblngfbaaW.PrintMore
set_option linter.unusedVariables false
set_option linter.unusedSimpArgs false
def primerlaw01_speaks.f : Option Bool := some true
theorem put_neg1 : octets_Put.f (-1) = some ⟨#[129, 1]⟩ := by decide +kernel
theorem get_256 : octets_Get.f ⟨#[2, 1, 0, 120]⟩ = some (256, 3, 0) := by decide +kernel
theorem text_a : ([] : List Int) ++ textL ⟨#[97]⟩ = [1, 1, 97] := by decide +kernel
theorem str_a : strOfNums [1, 1, 97] = ⟨#[1, 1, 97]⟩ := by decide +kernel
set_option maxHeartbeats 800000 in
theorem primerlaw01_speaks.calls (r : Bool) (w : World) (h : primerlaw01_speaks.f = some r) :
    Calls Try.prog 9 #[] w fun e w' => e = .returned (.bool r) ∧ Below w.heap.size w w' := by
  obtain rfl : true = r := Option.some.inj h
  clear h
  go_enter Try.func9, Try.ntmps9
  go_wp2_with fail
  refine (octets_Get.calls _ 256 3 0 _ get_256).mono ?_
  rintro e w' ⟨rfl, ⟨nd, rfl⟩⟩
  go_wp2_with fail
  have hnew : OutB ((w.drewN nd).alloc (.cells #[.slice none 0 0, .bool false] 34)) w.heap.size 0 34 #[.bool false, .bool false] (w.heap.size + 1) [] false :=
    OutB.new _ _ _ _ (by decide) (heap_alloc_new (w.drewN nd) _)
  refine (out_text _ _ _ _ _ _ _ _ hnew (by simp) ⟨#[97]⟩ (by simp)).mono ?_
  rintro e w2 ⟨rfl, hI, hk⟩
  rw [text_a] at hI
  have HI := Aside0.mk hI
  have HB := Aside0.mk ((below_alloc (pw_below_drewN (Below.refl w.heap.size w) nd) (.cells #[.slice none 0 0, .bool false] 34)).trans (hk.below (B := w.heap.size) (by omega) (by omega)))
  clear hI hk hnew
  go_wp2_with fail
  refine (out_bytes _ _ _ _ _ _ _ _ HI.out).mono ?_
  rintro e w3 ⟨rfl, rfl⟩
  have e1 : bytesR [1, 1, 97] (false || decide (65536 < (⟨#[97]⟩ : ByteArray).size)) = .tuple #[.string ⟨#[1, 1, 97]⟩, .bool true] := by
    unfold bytesR; rw [str_a]; rfl
  rw [e1]
  clear e1
  go_wp2_with fail
  refine (octets_Put.calls (-1) ⟨#[129, 1]⟩ _ put_neg1).mono ?_
  rintro e w4 ⟨rfl, hb4⟩
  have HB4 := Aside0.mk (below_then HB.out HB.out.size hb4)
  clear hb4
  go_wp2
  go_ret
  exact ⟨rfl, HB4.out⟩
end Go.Proofs.Ytcflcmoblngfbaa.PK
