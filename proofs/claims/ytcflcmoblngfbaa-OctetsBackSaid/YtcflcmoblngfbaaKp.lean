/- octets.Put by hand: the bytes of a number, as a plain function, and that the Go code makes them. Condition: none. -/
import Derived.Test.YtcflcmoblngfbaaK0
import Derived.Test.YtcflcmoblngfbaaPBx1
import Derived.Outline
namespace Go.Proofs.Ytcflcmoblngfbaa.PK
open Go.RowKit Go.Proofs.YtcflcmoblngfbaaW.PrintWords Go.Proofs.YtcflcmoblngfbaaW.PrintLast Go.Proofs.YtcflcmoblngfbaaW.PrintMore
set_option linter.unusedVariables false
set_option linter.unusedSimpArgs false

def nb (m : Int) : Nat := if m = 0 then 0 else if m < 256 then 1 else if m < 65536 then 2 else if m < 16777216 then 3 else if m < 4294967296 then 4 else if m < 1099511627776 then 5 else if m < 281474976710656 then 6 else 7
theorem nb_le (m : Int) : nb m ≤ 7 := by unfold nb; repeat' split
                                         all_goals omega
def beL : Nat → Int → List Int
  | 0, _ => []
  | k + 1, m => (m / 256 ^ k) % 256 :: beL k m
theorem beL_length (k : Nat) (m : Int) : (beL k m).length = k := by
  induction k with
  | zero => rfl
  | succ k ih => simp [beL, ih]
theorem beL_range (k : Nat) (m : Int) : ∀ x ∈ beL k m, 0 ≤ x ∧ x ≤ 255 := by
  induction k with
  | zero => simp [beL]
  | succ k ih =>
    intro x hx
    simp only [beL, List.mem_cons] at hx
    rcases hx with rfl | hx
    · omega
    · exact ih x hx
/-- The bytes of a number; none, where it has none. -/
def putL (n : Int) : List Int :=
  if n < -9007199254740992 ∨ 9007199254740992 < n then [] else
    if n < 0 then (128 + (nb (-n) : Int)) :: beL (nb (-n)) (-n) else (nb n : Int) :: beL (nb n) n
def octets_Put.f (n : Int) : Option ByteArray := some (strOfNums (putL n))

def tabL : ByteArray := ⟨#[0, 1, 2, 2, 3, 3, 3, 3, 4, 4, 4, 4, 4, 4, 4, 4, 5, 5, 5, 5, 5, 5, 5, 5, 5, 5, 5, 5, 5, 5, 5, 5, 6, 6, 6, 6, 6, 6, 6, 6, 6, 6, 6, 6, 6, 6, 6, 6, 6, 6, 6, 6, 6, 6, 6, 6, 6, 6, 6, 6, 6, 6, 6, 6, 7, 7, 7, 7, 7, 7, 7, 7, 7, 7, 7, 7, 7, 7, 7, 7, 7, 7, 7, 7, 7, 7, 7, 7, 7, 7, 7, 7, 7, 7, 7, 7, 7, 7, 7, 7, 7, 7, 7, 7, 7, 7, 7, 7, 7, 7, 7, 7, 7, 7, 7, 7, 7, 7, 7, 7, 7, 7, 7, 7, 7, 7, 7, 7, 8, 8, 8, 8, 8, 8, 8, 8, 8, 8, 8, 8, 8, 8, 8, 8, 8, 8, 8, 8, 8, 8, 8, 8, 8, 8, 8, 8, 8, 8, 8, 8, 8, 8, 8, 8, 8, 8, 8, 8, 8, 8, 8, 8, 8, 8, 8, 8, 8, 8, 8, 8, 8, 8, 8, 8, 8, 8, 8, 8, 8, 8, 8, 8, 8, 8, 8, 8, 8, 8, 8, 8, 8, 8, 8, 8, 8, 8, 8, 8, 8, 8, 8, 8, 8, 8, 8, 8, 8, 8, 8, 8, 8, 8, 8, 8, 8, 8, 8, 8, 8, 8, 8, 8, 8, 8, 8, 8, 8, 8, 8, 8, 8, 8, 8, 8, 8, 8, 8, 8, 8, 8, 8, 8, 8, 8, 8, 8]⟩
def lenW (a0 : Int) : Option Int := if a0 ≥ 4294967296 then (if (a0 / 4294967296) ≥ 65536 then (if ((a0 / 4294967296) / 65536) ≥ 256 then (if 0 ≤ ((((a0 / 4294967296) / 65536) / 256) % 256) then (if ((((a0 / 4294967296) / 65536) / 256) % 256) < 256 then (some (wrap64 (((32 + 16) + 8) + (wrap64 (bt tabL ((((a0 / 4294967296) / 65536) / 256) % 256)))))) else (none)) else (none)) else (if 0 ≤ (((a0 / 4294967296) / 65536) % 256) then (if (((a0 / 4294967296) / 65536) % 256) < 256 then (some (wrap64 ((32 + 16) + (wrap64 (bt tabL (((a0 / 4294967296) / 65536) % 256)))))) else (none)) else (none))) else (if (a0 / 4294967296) ≥ 256 then (if 0 ≤ (((a0 / 4294967296) / 256) % 256) then (if (((a0 / 4294967296) / 256) % 256) < 256 then (some (wrap64 ((32 + 8) + (wrap64 (bt tabL (((a0 / 4294967296) / 256) % 256)))))) else (none)) else (none)) else (if 0 ≤ ((a0 / 4294967296) % 256) then (if ((a0 / 4294967296) % 256) < 256 then (some (wrap64 (32 + (wrap64 (bt tabL ((a0 / 4294967296) % 256)))))) else (none)) else (none)))) else (if a0 ≥ 65536 then (if (a0 / 65536) ≥ 256 then (if 0 ≤ (((a0 / 65536) / 256) % 256) then (if (((a0 / 65536) / 256) % 256) < 256 then (some (wrap64 (((0 + 16) + 8) + (wrap64 (bt tabL (((a0 / 65536) / 256) % 256)))))) else (none)) else (none)) else (if 0 ≤ ((a0 / 65536) % 256) then (if ((a0 / 65536) % 256) < 256 then (some (wrap64 ((0 + 16) + (wrap64 (bt tabL ((a0 / 65536) % 256)))))) else (none)) else (none))) else (if a0 ≥ 256 then (if 0 ≤ ((a0 / 256) % 256) then (if ((a0 / 256) % 256) < 256 then (some (wrap64 ((0 + 8) + (wrap64 (bt tabL ((a0 / 256) % 256)))))) else (none)) else (none)) else (if 0 ≤ ((a0) % 256) then (if ((a0) % 256) < 256 then (some (wrap64 (0 + (wrap64 (bt tabL ((a0) % 256)))))) else (none)) else (none))))
theorem lenW_eq (m : Int) : PB.bits_Len64.f m = lenW m := rfl
theorem tabL_at (i : Int) (h0 : 0 ≤ i) (h1 : i < 256) : (i = 0 → bt tabL i = 0) ∧ (i ≠ 0 → 1 ≤ bt tabL i) ∧ bt tabL i ≤ 8 := by
  have h : ∀ x : Fin 256, ((((x.val : Nat) : Int) = 0 → bt tabL ((x.val : Nat) : Int) = 0) ∧ (((x.val : Nat) : Int) ≠ 0 → 1 ≤ bt tabL ((x.val : Nat) : Int)) ∧ bt tabL ((x.val : Nat) : Int) ≤ 8) := by decide +kernel
  have := h ⟨i.toNat, by omega⟩
  simp only [] at this
  rwa [Int.toNat_of_nonneg h0] at this
theorem len_some (m : Int) (h0 : 0 ≤ m) (h1 : m ≤ 9007199254740992) : ∃ r, PB.bits_Len.f m = some r ∧ 0 ≤ r ∧ r ≤ 64 ∧ (r + 7) / 8 = (nb m : Int) := by
  have e0 : PB.bits_Len.f m = lenW m := by
    unfold PB.bits_Len.f
    rw [lenW_eq]
    cases lenW m <;> rfl
  rw [e0]
  unfold lenW
  have w : ∀ x : Int, 0 ≤ x → x ≤ 1000 → wrap64 x = x := fun x a b => by unfold wrap64; omega
  by_cases c1 : m ≥ 4294967296
  · rw [if_pos c1]
    by_cases c2 : m / 4294967296 ≥ 65536
    · rw [if_pos c2]
      by_cases c3 : m / 4294967296 / 65536 ≥ 256
      · omega
      · rw [if_neg c3, if_pos (by omega), if_pos (by omega)]
        have t := tabL_at (m / 4294967296 / 65536 % 256) (by omega) (by omega)
        rw [w (bt tabL _) (by omega) (by omega), w _ (by omega) (by omega)]
        refine ⟨_, rfl, by omega, by omega, ?_⟩
        unfold nb
        repeat' split
        all_goals omega
    · rw [if_neg c2]
      by_cases c3 : m / 4294967296 ≥ 256
      · rw [if_pos c3, if_pos (by omega), if_pos (by omega)]
        have t := tabL_at (m / 4294967296 / 256 % 256) (by omega) (by omega)
        rw [w (bt tabL _) (by omega) (by omega), w _ (by omega) (by omega)]
        refine ⟨_, rfl, by omega, by omega, ?_⟩
        unfold nb
        repeat' split
        all_goals omega
      · rw [if_neg c3, if_pos (by omega), if_pos (by omega)]
        have t := tabL_at (m / 4294967296 % 256) (by omega) (by omega)
        rw [w (bt tabL _) (by omega) (by omega), w _ (by omega) (by omega)]
        refine ⟨_, rfl, by omega, by omega, ?_⟩
        unfold nb
        repeat' split
        all_goals omega
  · rw [if_neg c1]
    by_cases c2 : m ≥ 65536
    · rw [if_pos c2]
      by_cases c3 : m / 65536 ≥ 256
      · rw [if_pos c3, if_pos (by omega), if_pos (by omega)]
        have t := tabL_at (m / 65536 / 256 % 256) (by omega) (by omega)
        rw [w (bt tabL _) (by omega) (by omega), w _ (by omega) (by omega)]
        refine ⟨_, rfl, by omega, by omega, ?_⟩
        unfold nb
        repeat' split
        all_goals omega
      · rw [if_neg c3, if_pos (by omega), if_pos (by omega)]
        have t := tabL_at (m / 65536 % 256) (by omega) (by omega)
        rw [w (bt tabL _) (by omega) (by omega), w _ (by omega) (by omega)]
        refine ⟨_, rfl, by omega, by omega, ?_⟩
        unfold nb
        repeat' split
        all_goals omega
    · rw [if_neg c2]
      by_cases c3 : m ≥ 256
      · rw [if_pos c3, if_pos (by omega), if_pos (by omega)]
        have t := tabL_at (m / 256 % 256) (by omega) (by omega)
        rw [w (bt tabL _) (by omega) (by omega), w _ (by omega) (by omega)]
        refine ⟨_, rfl, by omega, by omega, ?_⟩
        unfold nb
        repeat' split
        all_goals omega
      · rw [if_neg c3, if_pos (by omega), if_pos (by omega)]
        have t := tabL_at (m % 256) (by omega) (by omega)
        rw [w (bt tabL _) (by omega) (by omega)]
        try rw [w _ (by omega) (by omega)]
        refine ⟨_, rfl, by omega, by omega, ?_⟩
        unfold nb
        repeat' split
        all_goals omega
end Go.Proofs.Ytcflcmoblngfbaa.PK
