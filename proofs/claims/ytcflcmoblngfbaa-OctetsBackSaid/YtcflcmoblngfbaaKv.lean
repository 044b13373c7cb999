/- Lists written to an Out: its two loops, for any holder that takes numbers and texts. Conditions: none, but what the holder asks. -/
import Derived.Test.YtcflcmoblngfbaaKw
import Derived.Test.YtcflcmoblngfbaaKe
import Derived.Test.YtcflcmoblngfbaaKs1
namespace Go.Proofs.Ytcflcmoblngfbaa.PK
open Go.RowKit Go.Proofs.YtcflcmoblngfbaaW.PrintWords Go.Proofs.YtcflcmoblngfbaaW.PrintLast Go.Proofs.YtcflcmoblngfbaaW.PrintMore
open Go.ChangeShapes Go.WideShapes
set_option linter.unusedVariables false
set_option linter.unusedSimpArgs false
/-- What takes numbers, yes and no, texts and counts: I says what it holds, ok how much it may hold. -/
structure Takes (p : Value) (ok : Nat → Prop) (I : World → List Int → Bool → Prop) : Prop where
  int : ∀ w l bad n, I w l bad → ok (l.length + 8) → Calls Try.prog 14 #[p, .int .i64 n] w fun e w' => e = .returned (.tuple #[]) ∧ I w' (l ++ putL n) (bad || !fitsN n)
  count : ∀ w l bad n, I w l bad → ok (l.length + 8) → Calls Try.prog 45 #[p, .int .i64 n] w fun e w' => e = .returned (.tuple #[]) ∧ I w' (l ++ putL n) (bad || !decide (n ≤ 65536))
  bool : ∀ w l bad v, I w l bad → ok (l.length + 8) → Calls Try.prog 43 #[p, .bool v] w fun e w' => e = .returned (.tuple #[]) ∧ I w' (l ++ [if v then 1 else 0]) bad
  text : ∀ w l bad s, I w l bad → ok (l.length + 65544) → Calls Try.prog 32 #[p, .string s] w fun e w' => e = .returned (.tuple #[]) ∧ I w' (l ++ textL s) (bad || decide (65536 < s.size))
def intsL (xs : List Int) : List Int := putL xs.length ++ xs.flatMap putL
def textsL (xs : List ByteArray) : List Int := putL xs.length ++ xs.flatMap textL
def badInts (xs : List Int) : Bool := !decide ((xs.length : Int) ≤ 65536) || xs.any fun n => !fitsN n
def badTexts (xs : List ByteArray) : Bool := !decide ((xs.length : Int) ≤ 65536) || xs.any fun s => decide (65536 < s.size)
theorem flat_le {α : Type} (f : α → List Int) (m : Nat) (hf : ∀ x, (f x).length ≤ m) (xs : List α) : (xs.flatMap f).length ≤ m * xs.length := by
  induction xs with
  | nil => simp
  | cons a xs ih =>
    rw [List.flatMap_cons, List.length_append, List.length_cons, Nat.mul_add, Nat.mul_one]
    have := hf a; omega
theorem take_mul {α : Type} (m : Nat) (xs : List α) (j : Nat) : m * (xs.take j).length ≤ m * xs.length := Nat.mul_le_mul_left _ (by rw [List.length_take]; omega)
theorem textL_len (s : ByteArray) : (textL s).length ≤ 65544 := by
  unfold textL
  split
  · simp
  · have := putL_len s.size
    rw [List.length_append, bytesOf_len]; omega
theorem flat_take {α : Type} (f : α → List Int) (xs : List α) (j : Nat) (h : j < xs.length) : (xs.take (j + 1)).flatMap f = (xs.take j).flatMap f ++ f xs[j] := by
  rw [List.take_succ_eq_append_getElem h, List.flatMap_append]; simp
theorem any_take {α : Type} (f : α → Bool) (xs : List α) (j : Nat) (h : j < xs.length) : (xs.take (j + 1)).any f = ((xs.take j).any f || f xs[j]) := by
  rw [List.take_succ_eq_append_getElem h, List.any_append]; simp
section
variable {p : Value} {ok : Nat → Prop} {I : World → List Int → Bool → Prop} (HT : Takes p ok I)
include HT
set_option maxHeartbeats 1600000 in
theorem out_ints (A : Option Addr) (c : Nat) (xs : List Int) (l : List Int) (bad : Bool) (w : World) (hI : I w l bad)
    (hR : ∀ w' l' bad', I w' l' bad' → Kd.C (Kd.int .i64) w' A xs.length xs) (hok : ∀ n, n ≤ l.length + (8 * xs.length + 16) → ok n) (hp : ∃ a, p = .pointer a) :
    Calls Try.prog 33 #[p, .slice A xs.length c] w fun e w' => e = .returned (.tuple #[]) ∧ I w' (l ++ intsL xs) (bad || badInts xs) := by
  obtain ⟨a, rfl⟩ := hp
  have H0 := Aside0.mk hI
  have HR := Aside0.mk hR
  have HOK := Aside0.mk hok
  clear hI hR hok
  have hlen := putL_len xs.length
  have hfl : ∀ j, ((xs.take j).flatMap putL).length ≤ 8 * xs.length := fun j => Nat.le_trans (flat_le putL 8 putL_len _) (take_mul _ xs j)
  have HF := Aside0.mk hfl
  have HL := Aside0.mk hlen
  clear hfl hlen
  go_enter Try.func33, Try.ntmps33
  go_wp2_with fail
  refine (HT.count w l bad xs.length H0.out (HOK.out _ (by omega))).mono ?_
  rintro e w1 ⟨rfl, hI1⟩
  have HI1 := Aside0.mk hI1
  clear hI1
  go_wp2_with fail
  go_loopw [5, 12] (fun _ i wr => ∃ j : Nat, j ≤ xs.length ∧ i = .int .i64 j ∧ Aside0 (I wr (l ++ putL xs.length ++ (xs.take j).flatMap putL) (bad || !decide ((xs.length : Int) ≤ 65536) || (xs.take j).any fun n => !fitsN n))) (fun _ i _ => xs.length - (intOf i).toNat)
  case atStart => exact ⟨0, Nat.zero_le _, rfl, ⟨by simpa using HI1.out⟩⟩
  case round =>
    obtain ⟨j, hj, rfl, hrel⟩ := hrel
    clear HI1
    by_cases hjn : j < xs.length
    · have hmx := (HR.out _ _ _ hrel.out).2.1
      obtain ⟨ad, rfl, hcell⟩ := C_int (HR.out _ _ _ hrel.out) j hjn
      have hd : decide ((j : Int) < (xs.length : Int)) = true := by simp; omega
      obtain ⟨x, hx⟩ : ∃ x, x = xs[j] := ⟨_, rfl⟩
      rw [← hx] at hcell
      have HX := Aside0.mk hx
      clear hx
      go_wp2_with fail
      refine (HT.int wr _ _ x hrel.out (HOK.out _ (by have := HF.out j; have := HL.out; simp only [List.length_append]; omega))).mono ?_
      rintro e w2 ⟨rfl, hI2⟩
      have HI2 := Aside0.mk hI2
      clear hI2 hrel hcell
      go_wp2_with fail
      go_roundw
      case rel =>
        refine ⟨j + 1, by omega, by go_num, ⟨?_⟩⟩
        have h := HI2.out
        rw [flat_take putL xs j hjn, any_take _ xs j hjn, ← List.append_assoc, ← Bool.or_assoc, ← HX.out]
        exact h
      case measure => simp [intOf]; omega
    · obtain rfl : xs.length = j := by omega
      have hd : decide ((xs.length : Int) < (xs.length : Int)) = false := by simp
      go_wp2
      go_end0
      refine ⟨rfl, ?_⟩
      have h := hrel.out
      rw [List.take_length] at h
      unfold intsL badInts
      rw [← List.append_assoc, ← Bool.or_assoc]
      exact h
set_option maxHeartbeats 1600000 in
theorem out_texts (A : Option Addr) (c : Nat) (xs : List ByteArray) (l : List Int) (bad : Bool) (w : World) (hI : I w l bad)
    (hR : ∀ w' l' bad', I w' l' bad' → Kd.C Kd.string w' A xs.length xs) (hok : ∀ n, n ≤ l.length + (65544 * xs.length + 70000) → ok n) (hp : ∃ a, p = .pointer a) :
    Calls Try.prog 44 #[p, .slice A xs.length c] w fun e w' => e = .returned (.tuple #[]) ∧ I w' (l ++ textsL xs) (bad || badTexts xs) := by
  obtain ⟨a, rfl⟩ := hp
  have H0 := Aside0.mk hI
  have HR := Aside0.mk hR
  have HOK := Aside0.mk hok
  clear hI hR hok
  have hlen := putL_len xs.length
  have hfl : ∀ j, ((xs.take j).flatMap textL).length ≤ 65544 * xs.length := fun j => Nat.le_trans (flat_le textL 65544 textL_len _) (take_mul _ xs j)
  have HF := Aside0.mk hfl
  have HL := Aside0.mk hlen
  clear hfl hlen
  go_enter Try.func44, Try.ntmps44
  go_wp2_with fail
  refine (HT.count w l bad xs.length H0.out (HOK.out _ (by omega))).mono ?_
  rintro e w1 ⟨rfl, hI1⟩
  have HI1 := Aside0.mk hI1
  clear hI1
  go_wp2_with fail
  go_loopw [5, 12] (fun _ i wr => ∃ j : Nat, j ≤ xs.length ∧ i = .int .i64 j ∧ Aside0 (I wr (l ++ putL xs.length ++ (xs.take j).flatMap textL) (bad || !decide ((xs.length : Int) ≤ 65536) || (xs.take j).any fun s => decide (65536 < s.size)))) (fun _ i _ => xs.length - (intOf i).toNat)
  case atStart => exact ⟨0, Nat.zero_le _, rfl, ⟨by simpa using HI1.out⟩⟩
  case round =>
    obtain ⟨j, hj, rfl, hrel⟩ := hrel
    clear HI1
    by_cases hjn : j < xs.length
    · have hmx := (HR.out _ _ _ hrel.out).2.1
      obtain ⟨ad, rfl, hcell⟩ := C_str (HR.out _ _ _ hrel.out) j hjn
      have hd : decide ((j : Int) < (xs.length : Int)) = true := by simp; omega
      obtain ⟨x, hx⟩ : ∃ x, x = xs[j] := ⟨_, rfl⟩
      rw [← hx] at hcell
      have HX := Aside0.mk hx
      clear hx
      go_wp2_with fail
      refine (HT.text wr _ _ x hrel.out (HOK.out _ (by have := HF.out j; have := HL.out; simp only [List.length_append]; omega))).mono ?_
      rintro e w2 ⟨rfl, hI2⟩
      have HI2 := Aside0.mk hI2
      clear hI2 hrel hcell
      go_wp2_with fail
      go_roundw
      case rel =>
        refine ⟨j + 1, by omega, by go_num, ⟨?_⟩⟩
        have h := HI2.out
        rw [flat_take textL xs j hjn, any_take _ xs j hjn, ← List.append_assoc, ← Bool.or_assoc, ← HX.out]
        exact h
      case measure => simp [intOf]; omega
    · obtain rfl : xs.length = j := by omega
      have hd : decide ((xs.length : Int) < (xs.length : Int)) = false := by simp
      go_wp2
      go_end0
      refine ⟨rfl, ?_⟩
      have h := hrel.out
      rw [List.take_length] at h
      unfold textsL badTexts
      rw [← List.append_assoc, ← Bool.or_assoc]
      exact h
end
end Go.Proofs.Ytcflcmoblngfbaa.PK
