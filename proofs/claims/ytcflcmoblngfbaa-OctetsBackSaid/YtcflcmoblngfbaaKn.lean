/- The document's Put and Get tell what the program's tell. Condition: none. -/
import Derived.Test.YtcflcmoblngfbaaKm
namespace Go.Proofs.Ytcflcmoblngfbaa.PK
open Go.RowKit Go.Proofs.YtcflcmoblngfbaaW.PrintWords Go.Proofs.YtcflcmoblngfbaaW.PrintLast Go.Proofs.YtcflcmoblngfbaaW.PrintMore
set_option linter.unusedVariables false
set_option linter.unusedSimpArgs false
theorem strOf_append (a b : List Int) : strOfNums (a ++ b) = strOfNums a ++ strOfNums b := by
  apply ByteArray.ext
  unfold strOfNums
  rw [ByteArray.data_append]
  simp
theorem app_assoc (a b c : ByteArray) : a ++ b ++ c = a ++ (b ++ c) := by
  apply ByteArray.ext
  simp [ByteArray.data_append]
theorem app_empty (a : ByteArray) : a ++ (⟨#[]⟩ : ByteArray) = a := by
  apply ByteArray.ext
  simp [ByteArray.data_append]
theorem w64 (x : Int) (h0 : -9223372036854775808 ≤ x) (h1 : x ≤ 9223372036854775807) : wrap64 x = x := by unfold wrap64; omega
theorem refPut_l0 (x3 : Int) (h3 : 0 ≤ x3 ∧ x3 ≤ 128) (d : Nat) : ∀ (m : Int) (s : ByteArray) (k : Nat), Digs d m → d + s.size ≤ 7 → m ≤ 9007199254740992 → d < k →
    primerref01_Put.l0 k m x3 s = some (strOfNums ((x3 + ((d + s.size : Nat) : Int)) :: beL d m) ++ s) := by
  induction d with
  | zero =>
    intro m s k hd hs hm hk
    obtain ⟨k, rfl⟩ : ∃ j, k = j + 1 := ⟨k - 1, by omega⟩
    have hm0 := (digs_zero m).mp hd
    subst hm0
    simp only [primerref01_Put.l0]
    rw [if_neg (by omega), Option.bind_some, strOfNums_size, if_pos (by simp; omega), w64 _ (by omega) (by omega), Int.emod_eq_of_lt (by omega) (by omega)]
    simp [beL]
  | succ d ih =>
    intro m s k hd hs hm hk
    obtain ⟨k, rfl⟩ : ∃ j, k = j + 1 := ⟨k - 1, by omega⟩
    have hd' := (digs_succ d m).mp hd
    simp only [primerref01_Put.l0]
    have e1 : Int.tmod m 256 = m % 256 := Int.tmod_eq_emod_of_nonneg (by omega)
    have e2 : Int.tdiv m 256 = m / 256 := Int.tdiv_eq_ediv_of_nonneg (by omega)
    have e3 : m % 256 % 256 = m % 256 := by omega
    rw [if_pos hd'.1, Option.bind_some, strOfNums_size, if_pos (by simp; omega), e1, e2, e3, w64 _ (by omega) (by omega)]
    rw [ih (m / 256) (strOfNums [m % 256] ++ s) k hd'.2 (by rw [size_app, strOfNums_size]; simp; omega) (by omega) (by omega)]
    rw [beL_snoc, ← List.cons_append, strOf_append, app_assoc]
    have e4 : (d + (strOfNums [m % 256] ++ s).size : Nat) = d + 1 + s.size := by rw [size_app, strOfNums_size]; simp; omega
    rw [e4]
theorem refPut_eq (n : Int) (hw : -9223372036854775808 ≤ n ∧ n ≤ 9223372036854775807) (k : Nat) (hk : 11 ≤ k) : primerref01_Put.f k n = some (strOfNums (putL n)) := by
  unfold primerref01_Put.f
  obtain ⟨k, rfl⟩ : ∃ j, k = j + 1 + 1 := ⟨k - 2, by omega⟩
  unfold putL
  by_cases h1 : n < -9007199254740992
  · rw [if_pos h1, if_pos (.inl h1)]
    simp only [primerref01_Put.j0, if_true]
    rfl
  · rw [if_neg h1]
    by_cases h2 : 9007199254740992 < n
    · rw [if_pos (.inr h2)]
      have : decide (n > 9007199254740992) = true := by simp; omega
      rw [this]
      simp only [primerref01_Put.j0, if_true]
      rfl
    · rw [if_neg (by omega)]
      have : decide (n > 9007199254740992) = false := by simp; omega
      rw [this]
      simp only [primerref01_Put.j0, Bool.false_eq_true, if_false, primerref01_Put.j1]
      by_cases h3 : n < 0
      · have h7 := nb_le (-n)
        rw [if_pos h3, if_pos h3, w64 _ (by omega) (by omega), refPut_l0 128 (by omega) (nb (-n)) (-n) _ k (digs_nb _ (by omega) (by omega)) (by show nb (-n) + 0 ≤ 7; omega) (by omega) (by omega), app_empty]
        rfl
      · have h7 := nb_le n
        rw [if_neg h3, if_neg h3, refPut_l0 0 (by omega) (nb n) n _ k (digs_nb _ (by omega) (by omega)) (by show nb n + 0 ≤ 7; omega) (by omega) (by omega), app_empty, Int.zero_add]
        rfl
end Go.Proofs.Ytcflcmoblngfbaa.PK
