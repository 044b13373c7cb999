/- The document's Get tells what the program's tells. Condition: none. -/
import Derived.Test.YtcflcmoblngfbaaKn
namespace Go.Proofs.Ytcflcmoblngfbaa.PK
open Go.RowKit Go.Proofs.YtcflcmoblngfbaaW.PrintWords Go.Proofs.YtcflcmoblngfbaaW.PrintLast Go.Proofs.YtcflcmoblngfbaaW.PrintMore
set_option linter.unusedVariables false
set_option linter.unusedSimpArgs false
theorem refGet_l0 (s : ByteArray) (K : Nat) (hK : K ≤ 7) (hs : K + 1 ≤ s.size) (j : Nat) : ∀ (i k : Nat), i + j = K → j + 13 ≤ k →
    ∃ k', 12 ≤ k' ∧ primerref01_Get.l0 k s K (valB s i) ((i : Int) + 1) = primerref01_Get.l0 k' s K (valB s K) ((K : Int) + 1) := by
  induction j with
  | zero =>
    intro i k hi hk
    obtain rfl : i = K := by omega
    exact ⟨k, by omega, rfl⟩
  | succ j ih =>
    intro i k hi hk
    obtain ⟨k, rfl⟩ : ∃ j, k = j + 1 := ⟨k - 1, by omega⟩
    obtain ⟨k', hk', e⟩ := ih (i + 1) k (by omega) (by omega)
    refine ⟨k', hk', ?_⟩
    rw [← e]
    have hv := valB_lt s i (by omega)
    have hv2 := valB_lt s (i + 1) (by omega)
    have hb := bt_range s ((i : Int) + 1)
    have hsum : valB s (i + 1) = valB s i * 256 + bt s ((i : Int) + 1) := rfl
    simp only [primerref01_Get.l0]
    rw [if_pos (by omega), if_pos (by omega), if_pos (by omega), w64 (256 * valB s i) (by omega) (by omega), w64 (bt s ((i : Int) + 1)) (by omega) (by omega), w64 _ (by omega) (by omega), w64 _ (by omega) (by omega)]
    have e1 : 256 * valB s i + bt s ((i : Int) + 1) = valB s (i + 1) := by rw [hsum]; omega
    rw [e1]
    rfl
theorem bytes_strOf_eq (l : List Int) (h : ∀ x ∈ l, 0 ≤ x ∧ x ≤ 255) (s : ByteArray) (k : Nat) : (strOfNums l).toList = (s.extract 0 k).toList ↔ l = (bytesOf s).take k := by
  rw [toList_iff]
  constructor
  · intro e
    have := congrArg bytesOf e
    rw [strOf_bytes l h, bytesOf_extract] at this
    simpa using this
  · intro e
    apply bytesOf_inj
    rw [strOf_bytes l h, bytesOf_extract, e]
    simp
/-- Get in a form of its own: a number is told just where Put gives the bytes back. -/
theorem getA_iff (s : ByteArray) (K : Nat) (hK : (K : Int) = bt s 0 % 128) (hz : s.size ≠ 0) (c1 : ¬ (bt s 0 % 128 > 7 ∨ 128 ≤ bt s 0 ∧ bt s 0 % 128 = 0)) (hs : K + 1 ≤ s.size) (n : Int) (hn : n = if 128 ≤ bt s 0 then - valB s K else valB s K) :
    getA s = if putL n = (bytesOf s).take (K + 1) then (n, (K : Int) + 1, 0) else (0, 0, 2) := by
  have hb0 := bt_range s 0
  have hg : getA s = if valB s K > 9007199254740992 ∨ (bt s 0 % 128 > 0 ∧ bt s 1 = 0) then (0, 0, 2) else (n, (K : Int) + 1, 0) := by
    have e : (bt s 0 % 128).toNat = K := by omega
    unfold getA
    rw [if_neg hz, if_neg c1, if_neg (by omega), e, ← hn, ← hK]
  by_cases hc : valB s K > 9007199254740992 ∨ (bt s 0 % 128 > 0 ∧ bt s 1 = 0)
  · rw [if_pos hc] at hg
    rw [hg, if_neg]
    intro hp
    have hv := valB_range s K
    have hl : (putL n).length = K + 1 := by rw [hp, List.length_take, bytesOf_len]; omega
    have hfit : -9007199254740992 ≤ n ∧ n ≤ 9007199254740992 := by
      refine Decidable.byContradiction fun h => ?_
      unfold putL at hl
      rw [if_pos (by omega)] at hl
      simp at hl
    have hg2 := get_put n hfit s (s.extract (K + 1) s.size) (by
      rw [hp, bytesOf_extract, ← bytesOf_len, List.take_length, List.take_append_drop])
    rw [hg] at hg2
    simp at hg2
  · rw [if_neg hc] at hg
    have hp := put_get s n ((K : Int) + 1) hg
    have e : ((K : Int) + 1).toNat = K + 1 := by omega
    rw [e] at hp
    rw [hg, if_pos hp.1]
theorem refGet_eq (s : ByteArray) (hsz : s.size ≤ 9223372036854775807) (k : Nat) (hk : 25 ≤ k) : primerref01_Get.f k s = some (getA s) := by
  obtain ⟨k, rfl⟩ : ∃ j, k = j + 1 := ⟨k - 1, by omega⟩
  have hb0 := bt_range s 0
  have e0 : Int.tmod (wrap64 (bt s 0)) 128 = bt s 0 % 128 := by
    rw [w64 _ (by omega) (by omega)]; exact Int.tmod_eq_emod_of_nonneg (by omega)
  unfold primerref01_Get.f
  rw [e0]
  by_cases hz : s.size = 0
  · rw [if_pos ((toList_nil_iff s).mpr hz)]
    unfold getA
    rw [if_pos hz]
  · rw [if_neg (fun h => hz ((toList_nil_iff s).mp h)), if_pos (by omega)]
    by_cases h7 : bt s 0 % 128 > 7
    · rw [if_pos h7]
      simp only [primerref01_Get.j0, if_true]
      unfold getA
      rw [if_neg hz, if_pos (.inl h7)]
    · rw [if_neg h7]
      by_cases h128 : bt s 0 = 128
      · have : (bt s 0 == 128) = true := by rw [beq_iff_eq]; exact h128
        rw [this]
        simp only [primerref01_Get.j0, if_true]
        unfold getA
        rw [if_neg hz, if_pos (.inr (by omega))]
      · have : (bt s 0 == 128) = false := by rw [beq_eq_false_iff_ne]; exact h128
        rw [this]
        simp only [primerref01_Get.j0, Bool.false_eq_true, if_false]
        obtain ⟨K, hK⟩ : ∃ K : Nat, (K : Int) = bt s 0 % 128 := ⟨(bt s 0 % 128).toNat, by omega⟩
        rw [← hK, w64 _ (by omega) (by omega)]
        have c1 : ¬ (bt s 0 % 128 > 7 ∨ 128 ≤ bt s 0 ∧ bt s 0 % 128 = 0) := by omega
        by_cases hs : (s.size : Int) < (K : Int) + 1
        · rw [if_pos hs]
          unfold getA
          rw [if_neg hz, if_neg c1, if_pos (by omega)]
        · rw [if_neg hs]
          obtain ⟨k', hk', e⟩ := refGet_l0 s K (by omega) (by omega) K 0 k (by omega) (by omega)
          have e' : primerref01_Get.l0 k s K 0 1 = primerref01_Get.l0 k' s K (valB s K) ((K : Int) + 1) := e
          rw [e']
          obtain ⟨k', rfl⟩ : ∃ j, k' = j + 1 := ⟨k' - 1, by omega⟩
          have hv := valB_lt s K (by omega)
          simp only [primerref01_Get.l0]
          rw [if_neg (by omega), if_pos (by omega)]
          have e8 : ((K : Int) + 1).toNat = K + 1 := by omega
          by_cases hb : bt s 0 > 127
          · rw [if_pos hb, w64 (-valB s K) (by omega) (by omega), refPut_eq _ (by omega) k' (by omega), Option.bind_some, w64 _ (by omega) (by omega), if_pos (by omega), if_pos (by omega), e8]
            rw [getA_iff s K hK hz c1 (by omega) (-valB s K) (by rw [if_pos (by omega)])]
            simp only [bytes_strOf_eq _ (putL_range _)]
            split <;> rfl
          · rw [if_neg hb, refPut_eq _ (by omega) k' (by omega), Option.bind_some, w64 _ (by omega) (by omega), if_pos (by omega), if_pos (by omega), e8]
            rw [getA_iff s K hK hz c1 (by omega) (valB s K) (by rw [if_neg (by omega)])]
            simp only [bytes_strOf_eq _ (putL_range _)]
            split <;> rfl
end Go.Proofs.Ytcflcmoblngfbaa.PK
