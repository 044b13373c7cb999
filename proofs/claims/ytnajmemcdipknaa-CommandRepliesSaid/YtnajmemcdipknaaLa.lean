/- Small words that the printed texts and the walks by hand share. Condition: none.
octets.Get by hand: what it answers, as a plain function, and that the Go code answers it. Condition: none.
Functions of the given program as plain Lean functions, and that the Go code answers what they tell (a law's row: the given statement, out of its plain form). Conditions: none beyond each theorem's own premises. Written by this repo's program wip/myprint.py.
octets.Put by hand: the bytes of a number, as a plain function, and that the Go code makes them. Condition: none.
octets.Put by hand: the Go code makes the bytes that putL tells. Condition: none.
Plain words on strings as lists of numbers. No program in sight. Condition: none. -/
import Derived.Test.YtnajmemcdipknaaProg
import Derived.Test.YtnajmemcdipknaaWWords
import Derived.Test.YtnajmemcdipknaaWMore
import Derived.Test.YtnajmemcdipknaaWAt
import Derived.Test.YtnajmemcdipknaaWApart
import Derived.Test.YtnajmemcdipknaaWKept
import Derived.WalkKit
import Derived.BigQuiet
import Derived.Deep.QuietTactic
import Derived.Below
import Derived.Deep.Draws
import Derived.Deep.AppendLies
import Derived.Maps.AppendAt
import Derived.OwnWalk
import Derived.Laws.BytesArg
import Derived.Laws.MakeOwn
import Derived.Laws.OwnMore
import Derived.Deep.OwnRows
import Derived.Tactics
import Derived.Lib.ConvBytes
import Derived.Laws.Slices
import Derived.KernelRfl
import Derived.RowKit3
import Derived.Deep.LoopGhost
import Derived.WideLaws
import Derived.Deep.DeepCutAuto
import Derived.Deep.CutBlock
import Derived.Deep.RegionHeld3
import Derived.Laws.Rows
import Derived.Lib.AppendStr
import Derived.ArgAppend
import Derived.Laws.IdiomCopy
import Derived.OrdersHeld
import Derived.Laws.BitsLemmas
import Derived.RowKit
import Derived.Test.YtnajmemcdipknaaWLast
import Derived.Test.YtnajmemcdipknaaWTab
import Derived.Test.YtnajmemcdipknaaWFour
import Derived.Test.YtnajmemcdipknaaWQPut
import Derived.Test.YtnajmemcdipknaaWArr
import Derived.Test.YtnajmemcdipknaaWZeros
import Derived.Test.YtnajmemcdipknaaWFoot
import Derived.Test.YtnajmemcdipknaaWShare
import Derived.Test.YtnajmemcdipknaaWN
import Derived.Test.YtnajmemcdipknaaWFootNe
import Derived.Test.YtnajmemcdipknaaWEqStruct
import Derived.Test.YtnajmemcdipknaaWRepsOne
import Derived.Test.YtnajmemcdipknaaWInv
import Derived.Test.YtnajmemcdipknaaWInvWords
import Derived.Test.YtnajmemcdipknaaWGuard
import Derived.Test.YtnajmemcdipknaaWNEv
import Derived.Outline
namespace Go.Proofs.Ytnajmemcdipknaa.PK
open Go.RowKit Go.Proofs.YtnajmemcdipknaaW.PrintWords Go.Proofs.YtnajmemcdipknaaW.PrintLast Go.Proofs.YtnajmemcdipknaaW.PrintMore
set_option linter.unusedVariables false
set_option linter.unusedSimpArgs false
set_option maxRecDepth 100000
theorem frozen_at {w w' : World} {m : Nat} {a : Addr} {b : Bool} (hq : w.drewN m = w') (h : w.frozen? a = b) : w'.frozen? a = b := by subst hq; exact h
theorem toList_length (s : ByteArray) : s.toList.length = s.size := by rw [ByteArray.toList_eq]; simp
theorem toList_nil (s : ByteArray) (h : s.size = 0) : s.toList = [] := List.eq_nil_of_length_eq_zero (by rw [toList_length, h])
end Go.Proofs.Ytnajmemcdipknaa.PK
namespace Go.Proofs.Ytnajmemcdipknaa.PK
open Go.RowKit Go.Proofs.YtnajmemcdipknaaW.PrintWords Go.Proofs.YtnajmemcdipknaaW.PrintLast Go.Proofs.YtnajmemcdipknaaW.PrintMore
set_option linter.unusedVariables false
set_option linter.unusedSimpArgs false
set_option maxRecDepth 100000

/-- The number that k bytes behind the first one tell, the highest first. -/
def valB (s : ByteArray) : Nat → Int
  | 0 => 0
  | k + 1 => valB s k * 256 + bt s ((k : Int) + 1)
theorem valB_range (s : ByteArray) (k : Nat) : 0 ≤ valB s k ∧ valB s k < 256 ^ k := by
  induction k with
  | zero => simp [valB]
  | succ k ih =>
    have hb := bt_range s ((k : Int) + 1)
    simp only [valB]
    have e : (256 : Int) ^ (k + 1) = 256 ^ k * 256 := Int.pow_succ ..
    rw [e]
    omega
theorem valB_lt (s : ByteArray) (k : Nat) (h : k ≤ 7) : 0 ≤ valB s k ∧ valB s k ≤ 72057594037927935 := by
  have := valB_range s k
  have h7 : ∀ j : Fin 8, (256 : Int) ^ j.val ≤ 72057594037927936 := by decide +kernel
  have := h7 ⟨k, by omega⟩
  simp only [] at this
  omega
theorem andNot128 (b : Int) (h0 : 0 ≤ b) (h1 : b ≤ 255) : Go.bits .andNot .u8 b 128 = b % 128 := by
  have h : ∀ x : Fin 256, Go.bits .andNot .u8 ((x.val : Nat) : Int) 128 = ((x.val : Nat) : Int) % 128 := by decide +kernel
  have := h ⟨b.toNat, by omega⟩
  simp only [] at this
  rwa [Int.toNat_of_nonneg h0] at this
theorem and128 (b : Int) (h0 : 0 ≤ b) (h1 : b ≤ 255) : Go.bits .and .u8 b 128 = if 128 ≤ b then 128 else 0 := by
  have h : ∀ x : Fin 256, Go.bits .and .u8 ((x.val : Nat) : Int) 128 = if 128 ≤ ((x.val : Nat) : Int) then 128 else 0 := by decide +kernel
  have := h ⟨b.toNat, by omega⟩
  simp only [] at this
  rwa [Int.toNat_of_nonneg h0] at this
theorem ofInt_i64 (a : Nat) (ha : a < 9223372036854775808) : (BitVec.ofInt 64 (a : Int)).toNat = a := by
  rw [BitVec.ofInt_natCast, BitVec.toNat_ofNat]; exact Nat.mod_eq_of_lt (by omega)
theorem i64_or_nat (a b : Nat) (ha : a < 9223372036854775808) (hb : b < 9223372036854775808) : Go.bits .or .i64 (a : Int) (b : Int) = ((a ||| b : Nat) : Int) := by
  have hx : a ||| b < 2 ^ 63 := Nat.or_lt_two_pow (by omega) (by omega)
  show IntKind.i64.wrap ((BitVec.ofInt 64 (a : Int) ||| BitVec.ofInt 64 (b : Int)).toNat : Int) = _
  rw [BitVec.toNat_or, ofInt_i64 a ha, ofInt_i64 b hb, IntKind.wrap_i64]
  omega
theorem or256 (n b : Int) (h0 : 0 ≤ n) (h1 : n ≤ 281474976710655) (h2 : 0 ≤ b) (h3 : b ≤ 255) : Go.bits .or .i64 (n * 256) b = n * 256 + b := by
  obtain ⟨m, rfl⟩ := Int.eq_ofNat_of_zero_le h0
  obtain ⟨c, rfl⟩ := Int.eq_ofNat_of_zero_le h2
  have h := i64_or_nat (m * 256) c (by omega) (by omega)
  have e : m * 256 ||| c = m * 256 + c := by
    have := Nat.two_pow_add_eq_or_of_lt (b := c) (i := 8) (by omega) m
    rw [Nat.mul_comm m 256]
    exact this.symm
  rw [e] at h
  simp only [Int.natCast_add, Int.natCast_mul, Int.cast_ofNat_Int] at h
  exact h
/-- What Get answers. -/
def getA (s : ByteArray) : Int × Int × Int :=
  if s.size = 0 then (0, 0, 3)
  else if bt s 0 % 128 > 7 ∨ (128 ≤ bt s 0 ∧ bt s 0 % 128 = 0) then (0, 0, 2)
  else if (s.size : Int) ≤ bt s 0 % 128 then (0, 0, 3)
  else if valB s (bt s 0 % 128).toNat > 9007199254740992 ∨ (bt s 0 % 128 > 0 ∧ bt s 1 = 0) then (0, 0, 2)
  else (if 128 ≤ bt s 0 then - valB s (bt s 0 % 128).toNat else valB s (bt s 0 % 128).toNat, bt s 0 % 128 + 1, 0)
def octets_Get.f (s : ByteArray) : Option (Int × Int × Int) := some (getA s)

/-- The walk, all of the answer given by variables. -/
def GetOk (s : ByteArray) (K : Nat) (below : Bool) (r : Int × Int × Int) : Prop :=
  r = if K > 7 ∨ (below = true ∧ K = 0) then (0, 0, 2) else if s.size ≤ K then (0, 0, 3)
    else if valB s K > 9007199254740992 ∨ (K > 0 ∧ bt s 1 = 0) then (0, 0, 2)
    else (if below = true then - valB s K else valB s K, (K : Int) + 1, 0)
theorem ret3_int {a b c a' b' c' : Int} (h : (a, b, c) = (a', b', c')) : Ending.returned (.tuple #[.int .i64 a', .int .i64 b', .int .i64 c']) = Ending.returned (.tuple #[.int .i64 a, .int .i64 b, .int .i64 c]) := by
  simp only [Prod.mk.injEq] at h
  obtain ⟨rfl, rfl, rfl⟩ := h
  rfl
set_option maxHeartbeats 1600000 in
theorem get_walk (a0 : ByteArray) (K : Nat) (below : Bool) (r1 r2 r3 : Int) (w : World) (hz : 0 < a0.size) (hK : K ≤ 127)
    (hAN : Go.bits .andNot .u8 (bt a0 0) 128 = (K : Int)) (hAD : (Go.bits .and .u8 (bt a0 0) 128 != 0) = below) (h : GetOk a0 K below (r1, r2, r3)) :
    Calls Try.prog 99 #[.string a0] w fun e w' => e = .returned (.tuple #[.int .i64 r1, .int .i64 r2, .int .i64 r3]) ∧ Drawn0 w w' := by
  have H := Aside0.mk h
  clear h
  have hl0 : (a0.toList == ([] : List UInt8)) = false := by
    rw [beq_eq_false_iff_ne]; intro h; have := toList_length a0; rw [h] at this; simp at this; omega
  have hx0 : ∀ h : 0 < a0.size, ((a0[0]'h).toNat : Int) = bt a0 0 := bt_at a0 0
  have q0 := eq_true hz
  have qi0 : (0 < (a0.size : Int)) = True := eq_true (by omega)
  by_cases h7 : 7 < K
  · have h7' : decide ((7 : Int) < (K : Int)) = true := by simp; omega
    go_enter Try.func99, Try.ntmps99
    go_wp2
    repeat (go_quiet (fail); try go_wp2)
    go_ret3
    refine ⟨ret3_int ?_, by repeat (first | exact Drawn0.refl _ | apply Drawn0.step)⟩
    have := H.out
    unfold GetOk at this
    rw [this, if_pos (.inl h7)]
  · have h7' : decide ((7 : Int) < (K : Int)) = false := by simp; omega
    by_cases hk0 : below = true ∧ K = 0
    · obtain ⟨rfl, rfl⟩ := hk0
      go_enter Try.func99, Try.ntmps99
      go_wp2
      repeat (go_quiet (fail); try go_wp2)
      go_ret3
      refine ⟨ret3_int ?_, by repeat (first | exact Drawn0.refl _ | apply Drawn0.step)⟩
      have := H.out
      unfold GetOk at this
      rw [this, if_pos (.inr ⟨rfl, rfl⟩)]
    · have H2 : Aside0 ((r1, r2, r3) = if a0.size ≤ K then (0, 0, 3) else if valB a0 K > 9007199254740992 ∨ (K > 0 ∧ bt a0 1 = 0) then (0, 0, 2) else (if below = true then - valB a0 K else valB a0 K, (K : Int) + 1, 0)) := by
        have := H.out
        unfold GetOk at this
        rw [if_neg (by rintro (h | h); omega; exact hk0 h)] at this
        exact ⟨this⟩
      clear H
      have hkb : below = true → (((K : Int) == 0) = false) := by
        intro hb; rw [beq_eq_false_iff_ne]; intro h; exact hk0 ⟨hb, by omega⟩
      clear hk0
      by_cases hs : a0.size ≤ K
      · have hs' : decide ((a0.size : Int) ≤ (K : Int)) = true := by simp; omega
        have hs2 : decide (a0.size ≤ K) = true := by simp; omega
        cases below
        all_goals
          try have hkb' := hkb rfl
          clear hkb
          go_enter Try.func99, Try.ntmps99
          go_wp2
          repeat (go_quiet (fail); try go_wp2)
          go_ret3
          refine ⟨ret3_int ?_, by repeat (first | exact Drawn0.refl _ | apply Drawn0.step)⟩
          rw [H2.out, if_pos hs]
      · have hs' : decide ((a0.size : Int) ≤ (K : Int)) = false := by simp; omega
        have hs2 : decide (a0.size ≤ K) = false := by simp; omega
        cases below
        all_goals
          try have hkb' := hkb rfl
          clear hkb
          go_enter Try.func99, Try.ntmps99
          go_wp2
          repeat (go_quiet (fail); try go_wp2)
          go_loop [7, 8] (fun n i => ∃ j : Nat, j ≤ K ∧ i = .int .i64 ((j : Int) + 1) ∧ n = .int .i64 (valB a0 j)) (fun _ i => K + 1 - (intOf i).toNat)
          case atStart => exact ⟨0, Nat.zero_le _, rfl, rfl⟩
          case round =>
            obtain ⟨j, hj, rfl, rfl⟩ := hrel
            by_cases hlt : j < K
            · have hv := valB_lt a0 j (by omega)
              have hv6 : valB a0 j ≤ 281474976710655 := by
                have := valB_range a0 j
                have h6 : ∀ j : Fin 7, (256 : Int) ^ j.val ≤ 281474976710656 := by decide +kernel
                have := h6 ⟨j, by omega⟩
                simp only [] at this
                omega
              have hbj := bt_range a0 ((j : Int) + 1)
              have hor : Go.bits .or .i64 (valB a0 j * 256) (bt a0 ((j : Int) + 1)) = valB a0 (j + 1) := or256 _ _ hv.1 hv6 hbj.1 hbj.2
              have hx : ∀ h : j + 1 < a0.size, ((a0[j + 1]'h).toNat : Int) = bt a0 ((j : Int) + 1) := fun h => by
                have := bt_at a0 ((j : Int) + 1) (by omega)
                rw [← this]
                rfl
              obtain ⟨hv0, hv1⟩ := hv
              obtain ⟨hb0, hb1⟩ := hbj
              go_wp2
              go_round
              case rel => exact ⟨j + 1, by omega, by go_num, rfl⟩
              case measure => simp [intOf]; omega
            · obtain rfl : K = j := by omega
              have hv := valB_lt a0 K (by omega)
              have hlt' : decide ((K : Int) + 1 ≤ (K : Int)) = false := by simp; omega
              by_cases hn : 9007199254740992 < valB a0 K
              · have hn' : decide (9007199254740992 < valB a0 K) = true := by simp; omega
                go_wp2
                go_ret3
                refine ⟨ret3_int ?_, by repeat (first | exact Drawn0.refl _ | apply Drawn0.step)⟩
                rw [H2.out, if_neg hs, if_pos (.inl hn)]
              · have hn' : decide (9007199254740992 < valB a0 K) = false := by simp; omega
                by_cases hk : 0 < K
                · have hk' : decide ((0 : Int) < (K : Int)) = true := by simp; omega
                  have hx : ∀ h : 1 < a0.size, ((a0[1]'h).toNat : Int) = bt a0 1 := bt_at a0 1
                  have q1 : (1 < a0.size) = True := eq_true (by omega)
                  have qi1 : (1 < (a0.size : Int)) = True := eq_true (by omega)
                  by_cases h1 : bt a0 1 = 0
                  · have h1' : (bt a0 1 == 0) = true := by rw [beq_iff_eq]; exact h1
                    have H3 := Aside0.mk h1
                    clear h1
                    go_wp2
                    repeat (go_quiet (fail); try go_wp2)
                    go_ret3
                    refine ⟨ret3_int ?_, by repeat (first | exact Drawn0.refl _ | apply Drawn0.step)⟩
                    rw [H2.out, if_neg hs, if_pos (.inr ⟨hk, H3.out⟩)]
                  · have h1' : (bt a0 1 == 0) = false := by rw [beq_eq_false_iff_ne]; exact h1
                    go_wp2
                    repeat (go_quiet (fail); try go_wp2)
                    go_ret3
                    refine ⟨ret3_int ?_, by repeat (first | exact Drawn0.refl _ | apply Drawn0.step)⟩
                    rw [H2.out, if_neg hs, if_neg (by rintro (h | ⟨_, h⟩); omega; exact h1 h)]
                    first | rfl | simp
                · have hk' : decide ((0 : Int) < (K : Int)) = false := by simp; omega
                  go_wp2
                  repeat (go_quiet (fail); try go_wp2)
                  go_ret3
                  refine ⟨ret3_int ?_, by repeat (first | exact Drawn0.refl _ | apply Drawn0.step)⟩
                  rw [H2.out, if_neg hs, if_neg (by rintro (h | ⟨h, _⟩) <;> omega)]
                  first | rfl | simp
set_option maxHeartbeats 800000 in
theorem octets_Get.calls (a0 : ByteArray) (r1 : Int) (r2 : Int) (r3 : Int) (w : World) (h : octets_Get.f a0 = some (r1, r2, r3)) :
    Calls Try.prog 99 #[.string a0] w fun e w' => e = .returned (.tuple #[.int .i64 r1, .int .i64 r2, .int .i64 r3]) ∧ Drawn0 w w' := by
  have hA : getA a0 = (r1, r2, r3) := Option.some.inj h
  have HA := Aside0.mk hA
  clear h hA
  by_cases hz : a0.size = 0
  · have hl : a0.toList = [] := toList_nil a0 hz
    have hA := HA.out
    rw [getA, if_pos hz] at hA
    simp only [Prod.mk.injEq] at hA
    obtain ⟨rfl, rfl, rfl⟩ := hA
    go_enter Try.func99, Try.ntmps99
    go_wp2
    go_ret3
    exact ⟨rfl, Drawn0.refl _⟩
  · have hb := bt_range a0 0
    refine get_walk a0 (bt a0 0 % 128).toNat (decide (128 ≤ bt a0 0)) r1 r2 r3 w (by omega) (by omega) ?_ ?_ ?_
    · rw [andNot128 _ hb.1 hb.2]; omega
    · rw [and128 _ hb.1 hb.2]; split <;> simp [*]
    · have hA := HA.out
      rw [getA, if_neg hz] at hA
      unfold GetOk
      rw [← hA]
      have e : ((bt a0 0 % 128).toNat : Int) = bt a0 0 % 128 := Int.toNat_of_nonneg (by omega)
      have e1 : (bt a0 0 % 128 > 7 ∨ 128 ≤ bt a0 0 ∧ bt a0 0 % 128 = 0) ↔ ((bt a0 0 % 128).toNat > 7 ∨ decide (128 ≤ bt a0 0) = true ∧ (bt a0 0 % 128).toNat = 0) := by
        rw [decide_eq_true_iff]; omega
      have e2 : ((a0.size : Int) ≤ bt a0 0 % 128) ↔ a0.size ≤ (bt a0 0 % 128).toNat := by omega
      have e3 : (bt a0 0 % 128 > 0) ↔ (bt a0 0 % 128).toNat > 0 := by omega
      simp only [e1, e2, e3, e, decide_eq_true_iff]
end Go.Proofs.Ytnajmemcdipknaa.PK
namespace Go.Proofs.Ytnajmemcdipknaa.PB
open Go.RowKit Go.Proofs.YtnajmemcdipknaaW.PrintWords Go.Proofs.YtnajmemcdipknaaW.PrintLast Go.Proofs.YtnajmemcdipknaaW.PrintMore
attribute [local go_sem] max2_int min2_int max_two min_two max_three min_three max_four min_four   -- for this text's walks alone
set_option linter.unusedVariables false
set_option linter.unusedSimpArgs false



def errW : Option Int → Value
  | none => .nilIface
  | some c => .iface 0 (.int .i64 c)
theorem errW_none : errW none = .nilIface := rfl
theorem errW_some (c : Int) : errW (some c) = .iface 0 (.int .i64 c) := rfl

-- the values' own types

end Go.Proofs.Ytnajmemcdipknaa.PB
namespace Go.Proofs.Ytnajmemcdipknaa.PB
open Go.RowKit Go.Proofs.YtnajmemcdipknaaW.PrintWords Go.Proofs.YtnajmemcdipknaaW.PrintLast Go.Proofs.YtnajmemcdipknaaW.PrintMore
attribute [local go_sem] max2_int min2_int max_two min_two max_three min_three max_four min_four   -- for this text's walks alone
set_option linter.unusedVariables false
set_option linter.unusedSimpArgs false

/-! ### bits_Len32: function 142 -/
/-! ### bits_Len64: function 143 -/
def bits_Len64.f (a0 : Int) : Option (Int) := if a0 ≥ 4294967296 then (if (a0 / 4294967296) ≥ 65536 then (if ((a0 / 4294967296) / 65536) ≥ 256 then (if 0 ≤ ((((a0 / 4294967296) / 65536) / 256) % 256) then (if ((((a0 / 4294967296) / 65536) / 256) % 256) < 256 then (some (wrap64 (((32 + 16) + 8) + (wrap64 (bt (⟨#[0, 1, 2, 2, 3, 3, 3, 3, 4, 4, 4, 4, 4, 4, 4, 4, 5, 5, 5, 5, 5, 5, 5, 5, 5, 5, 5, 5, 5, 5, 5, 5, 6, 6, 6, 6, 6, 6, 6, 6, 6, 6, 6, 6, 6, 6, 6, 6, 6, 6, 6, 6, 6, 6, 6, 6, 6, 6, 6, 6, 6, 6, 6, 6, 7, 7, 7, 7, 7, 7, 7, 7, 7, 7, 7, 7, 7, 7, 7, 7, 7, 7, 7, 7, 7, 7, 7, 7, 7, 7, 7, 7, 7, 7, 7, 7, 7, 7, 7, 7, 7, 7, 7, 7, 7, 7, 7, 7, 7, 7, 7, 7, 7, 7, 7, 7, 7, 7, 7, 7, 7, 7, 7, 7, 7, 7, 7, 7, 8, 8, 8, 8, 8, 8, 8, 8, 8, 8, 8, 8, 8, 8, 8, 8, 8, 8, 8, 8, 8, 8, 8, 8, 8, 8, 8, 8, 8, 8, 8, 8, 8, 8, 8, 8, 8, 8, 8, 8, 8, 8, 8, 8, 8, 8, 8, 8, 8, 8, 8, 8, 8, 8, 8, 8, 8, 8, 8, 8, 8, 8, 8, 8, 8, 8, 8, 8, 8, 8, 8, 8, 8, 8, 8, 8, 8, 8, 8, 8, 8, 8, 8, 8, 8, 8, 8, 8, 8, 8, 8, 8, 8, 8, 8, 8, 8, 8, 8, 8, 8, 8, 8, 8, 8, 8, 8, 8, 8, 8, 8, 8, 8, 8, 8, 8, 8, 8, 8, 8, 8, 8, 8, 8, 8, 8, 8, 8]⟩ : ByteArray) ((((a0 / 4294967296) / 65536) / 256) % 256)))))) else (none)) else (none)) else (if 0 ≤ (((a0 / 4294967296) / 65536) % 256) then (if (((a0 / 4294967296) / 65536) % 256) < 256 then (some (wrap64 ((32 + 16) + (wrap64 (bt (⟨#[0, 1, 2, 2, 3, 3, 3, 3, 4, 4, 4, 4, 4, 4, 4, 4, 5, 5, 5, 5, 5, 5, 5, 5, 5, 5, 5, 5, 5, 5, 5, 5, 6, 6, 6, 6, 6, 6, 6, 6, 6, 6, 6, 6, 6, 6, 6, 6, 6, 6, 6, 6, 6, 6, 6, 6, 6, 6, 6, 6, 6, 6, 6, 6, 7, 7, 7, 7, 7, 7, 7, 7, 7, 7, 7, 7, 7, 7, 7, 7, 7, 7, 7, 7, 7, 7, 7, 7, 7, 7, 7, 7, 7, 7, 7, 7, 7, 7, 7, 7, 7, 7, 7, 7, 7, 7, 7, 7, 7, 7, 7, 7, 7, 7, 7, 7, 7, 7, 7, 7, 7, 7, 7, 7, 7, 7, 7, 7, 8, 8, 8, 8, 8, 8, 8, 8, 8, 8, 8, 8, 8, 8, 8, 8, 8, 8, 8, 8, 8, 8, 8, 8, 8, 8, 8, 8, 8, 8, 8, 8, 8, 8, 8, 8, 8, 8, 8, 8, 8, 8, 8, 8, 8, 8, 8, 8, 8, 8, 8, 8, 8, 8, 8, 8, 8, 8, 8, 8, 8, 8, 8, 8, 8, 8, 8, 8, 8, 8, 8, 8, 8, 8, 8, 8, 8, 8, 8, 8, 8, 8, 8, 8, 8, 8, 8, 8, 8, 8, 8, 8, 8, 8, 8, 8, 8, 8, 8, 8, 8, 8, 8, 8, 8, 8, 8, 8, 8, 8, 8, 8, 8, 8, 8, 8, 8, 8, 8, 8, 8, 8, 8, 8, 8, 8, 8, 8]⟩ : ByteArray) (((a0 / 4294967296) / 65536) % 256)))))) else (none)) else (none))) else (if (a0 / 4294967296) ≥ 256 then (if 0 ≤ (((a0 / 4294967296) / 256) % 256) then (if (((a0 / 4294967296) / 256) % 256) < 256 then (some (wrap64 ((32 + 8) + (wrap64 (bt (⟨#[0, 1, 2, 2, 3, 3, 3, 3, 4, 4, 4, 4, 4, 4, 4, 4, 5, 5, 5, 5, 5, 5, 5, 5, 5, 5, 5, 5, 5, 5, 5, 5, 6, 6, 6, 6, 6, 6, 6, 6, 6, 6, 6, 6, 6, 6, 6, 6, 6, 6, 6, 6, 6, 6, 6, 6, 6, 6, 6, 6, 6, 6, 6, 6, 7, 7, 7, 7, 7, 7, 7, 7, 7, 7, 7, 7, 7, 7, 7, 7, 7, 7, 7, 7, 7, 7, 7, 7, 7, 7, 7, 7, 7, 7, 7, 7, 7, 7, 7, 7, 7, 7, 7, 7, 7, 7, 7, 7, 7, 7, 7, 7, 7, 7, 7, 7, 7, 7, 7, 7, 7, 7, 7, 7, 7, 7, 7, 7, 8, 8, 8, 8, 8, 8, 8, 8, 8, 8, 8, 8, 8, 8, 8, 8, 8, 8, 8, 8, 8, 8, 8, 8, 8, 8, 8, 8, 8, 8, 8, 8, 8, 8, 8, 8, 8, 8, 8, 8, 8, 8, 8, 8, 8, 8, 8, 8, 8, 8, 8, 8, 8, 8, 8, 8, 8, 8, 8, 8, 8, 8, 8, 8, 8, 8, 8, 8, 8, 8, 8, 8, 8, 8, 8, 8, 8, 8, 8, 8, 8, 8, 8, 8, 8, 8, 8, 8, 8, 8, 8, 8, 8, 8, 8, 8, 8, 8, 8, 8, 8, 8, 8, 8, 8, 8, 8, 8, 8, 8, 8, 8, 8, 8, 8, 8, 8, 8, 8, 8, 8, 8, 8, 8, 8, 8, 8, 8]⟩ : ByteArray) (((a0 / 4294967296) / 256) % 256)))))) else (none)) else (none)) else (if 0 ≤ ((a0 / 4294967296) % 256) then (if ((a0 / 4294967296) % 256) < 256 then (some (wrap64 (32 + (wrap64 (bt (⟨#[0, 1, 2, 2, 3, 3, 3, 3, 4, 4, 4, 4, 4, 4, 4, 4, 5, 5, 5, 5, 5, 5, 5, 5, 5, 5, 5, 5, 5, 5, 5, 5, 6, 6, 6, 6, 6, 6, 6, 6, 6, 6, 6, 6, 6, 6, 6, 6, 6, 6, 6, 6, 6, 6, 6, 6, 6, 6, 6, 6, 6, 6, 6, 6, 7, 7, 7, 7, 7, 7, 7, 7, 7, 7, 7, 7, 7, 7, 7, 7, 7, 7, 7, 7, 7, 7, 7, 7, 7, 7, 7, 7, 7, 7, 7, 7, 7, 7, 7, 7, 7, 7, 7, 7, 7, 7, 7, 7, 7, 7, 7, 7, 7, 7, 7, 7, 7, 7, 7, 7, 7, 7, 7, 7, 7, 7, 7, 7, 8, 8, 8, 8, 8, 8, 8, 8, 8, 8, 8, 8, 8, 8, 8, 8, 8, 8, 8, 8, 8, 8, 8, 8, 8, 8, 8, 8, 8, 8, 8, 8, 8, 8, 8, 8, 8, 8, 8, 8, 8, 8, 8, 8, 8, 8, 8, 8, 8, 8, 8, 8, 8, 8, 8, 8, 8, 8, 8, 8, 8, 8, 8, 8, 8, 8, 8, 8, 8, 8, 8, 8, 8, 8, 8, 8, 8, 8, 8, 8, 8, 8, 8, 8, 8, 8, 8, 8, 8, 8, 8, 8, 8, 8, 8, 8, 8, 8, 8, 8, 8, 8, 8, 8, 8, 8, 8, 8, 8, 8, 8, 8, 8, 8, 8, 8, 8, 8, 8, 8, 8, 8, 8, 8, 8, 8, 8, 8]⟩ : ByteArray) ((a0 / 4294967296) % 256)))))) else (none)) else (none)))) else (if a0 ≥ 65536 then (if (a0 / 65536) ≥ 256 then (if 0 ≤ (((a0 / 65536) / 256) % 256) then (if (((a0 / 65536) / 256) % 256) < 256 then (some (wrap64 (((0 + 16) + 8) + (wrap64 (bt (⟨#[0, 1, 2, 2, 3, 3, 3, 3, 4, 4, 4, 4, 4, 4, 4, 4, 5, 5, 5, 5, 5, 5, 5, 5, 5, 5, 5, 5, 5, 5, 5, 5, 6, 6, 6, 6, 6, 6, 6, 6, 6, 6, 6, 6, 6, 6, 6, 6, 6, 6, 6, 6, 6, 6, 6, 6, 6, 6, 6, 6, 6, 6, 6, 6, 7, 7, 7, 7, 7, 7, 7, 7, 7, 7, 7, 7, 7, 7, 7, 7, 7, 7, 7, 7, 7, 7, 7, 7, 7, 7, 7, 7, 7, 7, 7, 7, 7, 7, 7, 7, 7, 7, 7, 7, 7, 7, 7, 7, 7, 7, 7, 7, 7, 7, 7, 7, 7, 7, 7, 7, 7, 7, 7, 7, 7, 7, 7, 7, 8, 8, 8, 8, 8, 8, 8, 8, 8, 8, 8, 8, 8, 8, 8, 8, 8, 8, 8, 8, 8, 8, 8, 8, 8, 8, 8, 8, 8, 8, 8, 8, 8, 8, 8, 8, 8, 8, 8, 8, 8, 8, 8, 8, 8, 8, 8, 8, 8, 8, 8, 8, 8, 8, 8, 8, 8, 8, 8, 8, 8, 8, 8, 8, 8, 8, 8, 8, 8, 8, 8, 8, 8, 8, 8, 8, 8, 8, 8, 8, 8, 8, 8, 8, 8, 8, 8, 8, 8, 8, 8, 8, 8, 8, 8, 8, 8, 8, 8, 8, 8, 8, 8, 8, 8, 8, 8, 8, 8, 8, 8, 8, 8, 8, 8, 8, 8, 8, 8, 8, 8, 8, 8, 8, 8, 8, 8, 8]⟩ : ByteArray) (((a0 / 65536) / 256) % 256)))))) else (none)) else (none)) else (if 0 ≤ ((a0 / 65536) % 256) then (if ((a0 / 65536) % 256) < 256 then (some (wrap64 ((0 + 16) + (wrap64 (bt (⟨#[0, 1, 2, 2, 3, 3, 3, 3, 4, 4, 4, 4, 4, 4, 4, 4, 5, 5, 5, 5, 5, 5, 5, 5, 5, 5, 5, 5, 5, 5, 5, 5, 6, 6, 6, 6, 6, 6, 6, 6, 6, 6, 6, 6, 6, 6, 6, 6, 6, 6, 6, 6, 6, 6, 6, 6, 6, 6, 6, 6, 6, 6, 6, 6, 7, 7, 7, 7, 7, 7, 7, 7, 7, 7, 7, 7, 7, 7, 7, 7, 7, 7, 7, 7, 7, 7, 7, 7, 7, 7, 7, 7, 7, 7, 7, 7, 7, 7, 7, 7, 7, 7, 7, 7, 7, 7, 7, 7, 7, 7, 7, 7, 7, 7, 7, 7, 7, 7, 7, 7, 7, 7, 7, 7, 7, 7, 7, 7, 8, 8, 8, 8, 8, 8, 8, 8, 8, 8, 8, 8, 8, 8, 8, 8, 8, 8, 8, 8, 8, 8, 8, 8, 8, 8, 8, 8, 8, 8, 8, 8, 8, 8, 8, 8, 8, 8, 8, 8, 8, 8, 8, 8, 8, 8, 8, 8, 8, 8, 8, 8, 8, 8, 8, 8, 8, 8, 8, 8, 8, 8, 8, 8, 8, 8, 8, 8, 8, 8, 8, 8, 8, 8, 8, 8, 8, 8, 8, 8, 8, 8, 8, 8, 8, 8, 8, 8, 8, 8, 8, 8, 8, 8, 8, 8, 8, 8, 8, 8, 8, 8, 8, 8, 8, 8, 8, 8, 8, 8, 8, 8, 8, 8, 8, 8, 8, 8, 8, 8, 8, 8, 8, 8, 8, 8, 8, 8]⟩ : ByteArray) ((a0 / 65536) % 256)))))) else (none)) else (none))) else (if a0 ≥ 256 then (if 0 ≤ ((a0 / 256) % 256) then (if ((a0 / 256) % 256) < 256 then (some (wrap64 ((0 + 8) + (wrap64 (bt (⟨#[0, 1, 2, 2, 3, 3, 3, 3, 4, 4, 4, 4, 4, 4, 4, 4, 5, 5, 5, 5, 5, 5, 5, 5, 5, 5, 5, 5, 5, 5, 5, 5, 6, 6, 6, 6, 6, 6, 6, 6, 6, 6, 6, 6, 6, 6, 6, 6, 6, 6, 6, 6, 6, 6, 6, 6, 6, 6, 6, 6, 6, 6, 6, 6, 7, 7, 7, 7, 7, 7, 7, 7, 7, 7, 7, 7, 7, 7, 7, 7, 7, 7, 7, 7, 7, 7, 7, 7, 7, 7, 7, 7, 7, 7, 7, 7, 7, 7, 7, 7, 7, 7, 7, 7, 7, 7, 7, 7, 7, 7, 7, 7, 7, 7, 7, 7, 7, 7, 7, 7, 7, 7, 7, 7, 7, 7, 7, 7, 8, 8, 8, 8, 8, 8, 8, 8, 8, 8, 8, 8, 8, 8, 8, 8, 8, 8, 8, 8, 8, 8, 8, 8, 8, 8, 8, 8, 8, 8, 8, 8, 8, 8, 8, 8, 8, 8, 8, 8, 8, 8, 8, 8, 8, 8, 8, 8, 8, 8, 8, 8, 8, 8, 8, 8, 8, 8, 8, 8, 8, 8, 8, 8, 8, 8, 8, 8, 8, 8, 8, 8, 8, 8, 8, 8, 8, 8, 8, 8, 8, 8, 8, 8, 8, 8, 8, 8, 8, 8, 8, 8, 8, 8, 8, 8, 8, 8, 8, 8, 8, 8, 8, 8, 8, 8, 8, 8, 8, 8, 8, 8, 8, 8, 8, 8, 8, 8, 8, 8, 8, 8, 8, 8, 8, 8, 8, 8]⟩ : ByteArray) ((a0 / 256) % 256)))))) else (none)) else (none)) else (if 0 ≤ ((a0) % 256) then (if ((a0) % 256) < 256 then (some (wrap64 (0 + (wrap64 (bt (⟨#[0, 1, 2, 2, 3, 3, 3, 3, 4, 4, 4, 4, 4, 4, 4, 4, 5, 5, 5, 5, 5, 5, 5, 5, 5, 5, 5, 5, 5, 5, 5, 5, 6, 6, 6, 6, 6, 6, 6, 6, 6, 6, 6, 6, 6, 6, 6, 6, 6, 6, 6, 6, 6, 6, 6, 6, 6, 6, 6, 6, 6, 6, 6, 6, 7, 7, 7, 7, 7, 7, 7, 7, 7, 7, 7, 7, 7, 7, 7, 7, 7, 7, 7, 7, 7, 7, 7, 7, 7, 7, 7, 7, 7, 7, 7, 7, 7, 7, 7, 7, 7, 7, 7, 7, 7, 7, 7, 7, 7, 7, 7, 7, 7, 7, 7, 7, 7, 7, 7, 7, 7, 7, 7, 7, 7, 7, 7, 7, 8, 8, 8, 8, 8, 8, 8, 8, 8, 8, 8, 8, 8, 8, 8, 8, 8, 8, 8, 8, 8, 8, 8, 8, 8, 8, 8, 8, 8, 8, 8, 8, 8, 8, 8, 8, 8, 8, 8, 8, 8, 8, 8, 8, 8, 8, 8, 8, 8, 8, 8, 8, 8, 8, 8, 8, 8, 8, 8, 8, 8, 8, 8, 8, 8, 8, 8, 8, 8, 8, 8, 8, 8, 8, 8, 8, 8, 8, 8, 8, 8, 8, 8, 8, 8, 8, 8, 8, 8, 8, 8, 8, 8, 8, 8, 8, 8, 8, 8, 8, 8, 8, 8, 8, 8, 8, 8, 8, 8, 8, 8, 8, 8, 8, 8, 8, 8, 8, 8, 8, 8, 8, 8, 8, 8, 8, 8, 8]⟩ : ByteArray) ((a0) % 256)))))) else (none)) else (none))))
set_option maxHeartbeats 8000000 in
set_option maxRecDepth 100000 in
theorem bits_Len64.calls (a0 : Int) (r : Int) (w : World) (h : bits_Len64.f a0 = some r) :
    Calls Try.prog 143 #[.int .u64 a0] w fun e w' => e = .returned (.int .i64 r) ∧ Drawn0 w w' := by
  have H : (if a0 ≥ 4294967296 then (if (a0 / 4294967296) ≥ 65536 then (if ((a0 / 4294967296) / 65536) ≥ 256 then (if 0 ≤ ((((a0 / 4294967296) / 65536) / 256) % 256) then (if ((((a0 / 4294967296) / 65536) / 256) % 256) < 256 then (some (wrap64 (((32 + 16) + 8) + (wrap64 (bt (⟨#[0, 1, 2, 2, 3, 3, 3, 3, 4, 4, 4, 4, 4, 4, 4, 4, 5, 5, 5, 5, 5, 5, 5, 5, 5, 5, 5, 5, 5, 5, 5, 5, 6, 6, 6, 6, 6, 6, 6, 6, 6, 6, 6, 6, 6, 6, 6, 6, 6, 6, 6, 6, 6, 6, 6, 6, 6, 6, 6, 6, 6, 6, 6, 6, 7, 7, 7, 7, 7, 7, 7, 7, 7, 7, 7, 7, 7, 7, 7, 7, 7, 7, 7, 7, 7, 7, 7, 7, 7, 7, 7, 7, 7, 7, 7, 7, 7, 7, 7, 7, 7, 7, 7, 7, 7, 7, 7, 7, 7, 7, 7, 7, 7, 7, 7, 7, 7, 7, 7, 7, 7, 7, 7, 7, 7, 7, 7, 7, 8, 8, 8, 8, 8, 8, 8, 8, 8, 8, 8, 8, 8, 8, 8, 8, 8, 8, 8, 8, 8, 8, 8, 8, 8, 8, 8, 8, 8, 8, 8, 8, 8, 8, 8, 8, 8, 8, 8, 8, 8, 8, 8, 8, 8, 8, 8, 8, 8, 8, 8, 8, 8, 8, 8, 8, 8, 8, 8, 8, 8, 8, 8, 8, 8, 8, 8, 8, 8, 8, 8, 8, 8, 8, 8, 8, 8, 8, 8, 8, 8, 8, 8, 8, 8, 8, 8, 8, 8, 8, 8, 8, 8, 8, 8, 8, 8, 8, 8, 8, 8, 8, 8, 8, 8, 8, 8, 8, 8, 8, 8, 8, 8, 8, 8, 8, 8, 8, 8, 8, 8, 8, 8, 8, 8, 8, 8, 8]⟩ : ByteArray) ((((a0 / 4294967296) / 65536) / 256) % 256)))))) else (none)) else (none)) else (if 0 ≤ (((a0 / 4294967296) / 65536) % 256) then (if (((a0 / 4294967296) / 65536) % 256) < 256 then (some (wrap64 ((32 + 16) + (wrap64 (bt (⟨#[0, 1, 2, 2, 3, 3, 3, 3, 4, 4, 4, 4, 4, 4, 4, 4, 5, 5, 5, 5, 5, 5, 5, 5, 5, 5, 5, 5, 5, 5, 5, 5, 6, 6, 6, 6, 6, 6, 6, 6, 6, 6, 6, 6, 6, 6, 6, 6, 6, 6, 6, 6, 6, 6, 6, 6, 6, 6, 6, 6, 6, 6, 6, 6, 7, 7, 7, 7, 7, 7, 7, 7, 7, 7, 7, 7, 7, 7, 7, 7, 7, 7, 7, 7, 7, 7, 7, 7, 7, 7, 7, 7, 7, 7, 7, 7, 7, 7, 7, 7, 7, 7, 7, 7, 7, 7, 7, 7, 7, 7, 7, 7, 7, 7, 7, 7, 7, 7, 7, 7, 7, 7, 7, 7, 7, 7, 7, 7, 8, 8, 8, 8, 8, 8, 8, 8, 8, 8, 8, 8, 8, 8, 8, 8, 8, 8, 8, 8, 8, 8, 8, 8, 8, 8, 8, 8, 8, 8, 8, 8, 8, 8, 8, 8, 8, 8, 8, 8, 8, 8, 8, 8, 8, 8, 8, 8, 8, 8, 8, 8, 8, 8, 8, 8, 8, 8, 8, 8, 8, 8, 8, 8, 8, 8, 8, 8, 8, 8, 8, 8, 8, 8, 8, 8, 8, 8, 8, 8, 8, 8, 8, 8, 8, 8, 8, 8, 8, 8, 8, 8, 8, 8, 8, 8, 8, 8, 8, 8, 8, 8, 8, 8, 8, 8, 8, 8, 8, 8, 8, 8, 8, 8, 8, 8, 8, 8, 8, 8, 8, 8, 8, 8, 8, 8, 8, 8]⟩ : ByteArray) (((a0 / 4294967296) / 65536) % 256)))))) else (none)) else (none))) else (if (a0 / 4294967296) ≥ 256 then (if 0 ≤ (((a0 / 4294967296) / 256) % 256) then (if (((a0 / 4294967296) / 256) % 256) < 256 then (some (wrap64 ((32 + 8) + (wrap64 (bt (⟨#[0, 1, 2, 2, 3, 3, 3, 3, 4, 4, 4, 4, 4, 4, 4, 4, 5, 5, 5, 5, 5, 5, 5, 5, 5, 5, 5, 5, 5, 5, 5, 5, 6, 6, 6, 6, 6, 6, 6, 6, 6, 6, 6, 6, 6, 6, 6, 6, 6, 6, 6, 6, 6, 6, 6, 6, 6, 6, 6, 6, 6, 6, 6, 6, 7, 7, 7, 7, 7, 7, 7, 7, 7, 7, 7, 7, 7, 7, 7, 7, 7, 7, 7, 7, 7, 7, 7, 7, 7, 7, 7, 7, 7, 7, 7, 7, 7, 7, 7, 7, 7, 7, 7, 7, 7, 7, 7, 7, 7, 7, 7, 7, 7, 7, 7, 7, 7, 7, 7, 7, 7, 7, 7, 7, 7, 7, 7, 7, 8, 8, 8, 8, 8, 8, 8, 8, 8, 8, 8, 8, 8, 8, 8, 8, 8, 8, 8, 8, 8, 8, 8, 8, 8, 8, 8, 8, 8, 8, 8, 8, 8, 8, 8, 8, 8, 8, 8, 8, 8, 8, 8, 8, 8, 8, 8, 8, 8, 8, 8, 8, 8, 8, 8, 8, 8, 8, 8, 8, 8, 8, 8, 8, 8, 8, 8, 8, 8, 8, 8, 8, 8, 8, 8, 8, 8, 8, 8, 8, 8, 8, 8, 8, 8, 8, 8, 8, 8, 8, 8, 8, 8, 8, 8, 8, 8, 8, 8, 8, 8, 8, 8, 8, 8, 8, 8, 8, 8, 8, 8, 8, 8, 8, 8, 8, 8, 8, 8, 8, 8, 8, 8, 8, 8, 8, 8, 8]⟩ : ByteArray) (((a0 / 4294967296) / 256) % 256)))))) else (none)) else (none)) else (if 0 ≤ ((a0 / 4294967296) % 256) then (if ((a0 / 4294967296) % 256) < 256 then (some (wrap64 (32 + (wrap64 (bt (⟨#[0, 1, 2, 2, 3, 3, 3, 3, 4, 4, 4, 4, 4, 4, 4, 4, 5, 5, 5, 5, 5, 5, 5, 5, 5, 5, 5, 5, 5, 5, 5, 5, 6, 6, 6, 6, 6, 6, 6, 6, 6, 6, 6, 6, 6, 6, 6, 6, 6, 6, 6, 6, 6, 6, 6, 6, 6, 6, 6, 6, 6, 6, 6, 6, 7, 7, 7, 7, 7, 7, 7, 7, 7, 7, 7, 7, 7, 7, 7, 7, 7, 7, 7, 7, 7, 7, 7, 7, 7, 7, 7, 7, 7, 7, 7, 7, 7, 7, 7, 7, 7, 7, 7, 7, 7, 7, 7, 7, 7, 7, 7, 7, 7, 7, 7, 7, 7, 7, 7, 7, 7, 7, 7, 7, 7, 7, 7, 7, 8, 8, 8, 8, 8, 8, 8, 8, 8, 8, 8, 8, 8, 8, 8, 8, 8, 8, 8, 8, 8, 8, 8, 8, 8, 8, 8, 8, 8, 8, 8, 8, 8, 8, 8, 8, 8, 8, 8, 8, 8, 8, 8, 8, 8, 8, 8, 8, 8, 8, 8, 8, 8, 8, 8, 8, 8, 8, 8, 8, 8, 8, 8, 8, 8, 8, 8, 8, 8, 8, 8, 8, 8, 8, 8, 8, 8, 8, 8, 8, 8, 8, 8, 8, 8, 8, 8, 8, 8, 8, 8, 8, 8, 8, 8, 8, 8, 8, 8, 8, 8, 8, 8, 8, 8, 8, 8, 8, 8, 8, 8, 8, 8, 8, 8, 8, 8, 8, 8, 8, 8, 8, 8, 8, 8, 8, 8, 8]⟩ : ByteArray) ((a0 / 4294967296) % 256)))))) else (none)) else (none)))) else (if a0 ≥ 65536 then (if (a0 / 65536) ≥ 256 then (if 0 ≤ (((a0 / 65536) / 256) % 256) then (if (((a0 / 65536) / 256) % 256) < 256 then (some (wrap64 (((0 + 16) + 8) + (wrap64 (bt (⟨#[0, 1, 2, 2, 3, 3, 3, 3, 4, 4, 4, 4, 4, 4, 4, 4, 5, 5, 5, 5, 5, 5, 5, 5, 5, 5, 5, 5, 5, 5, 5, 5, 6, 6, 6, 6, 6, 6, 6, 6, 6, 6, 6, 6, 6, 6, 6, 6, 6, 6, 6, 6, 6, 6, 6, 6, 6, 6, 6, 6, 6, 6, 6, 6, 7, 7, 7, 7, 7, 7, 7, 7, 7, 7, 7, 7, 7, 7, 7, 7, 7, 7, 7, 7, 7, 7, 7, 7, 7, 7, 7, 7, 7, 7, 7, 7, 7, 7, 7, 7, 7, 7, 7, 7, 7, 7, 7, 7, 7, 7, 7, 7, 7, 7, 7, 7, 7, 7, 7, 7, 7, 7, 7, 7, 7, 7, 7, 7, 8, 8, 8, 8, 8, 8, 8, 8, 8, 8, 8, 8, 8, 8, 8, 8, 8, 8, 8, 8, 8, 8, 8, 8, 8, 8, 8, 8, 8, 8, 8, 8, 8, 8, 8, 8, 8, 8, 8, 8, 8, 8, 8, 8, 8, 8, 8, 8, 8, 8, 8, 8, 8, 8, 8, 8, 8, 8, 8, 8, 8, 8, 8, 8, 8, 8, 8, 8, 8, 8, 8, 8, 8, 8, 8, 8, 8, 8, 8, 8, 8, 8, 8, 8, 8, 8, 8, 8, 8, 8, 8, 8, 8, 8, 8, 8, 8, 8, 8, 8, 8, 8, 8, 8, 8, 8, 8, 8, 8, 8, 8, 8, 8, 8, 8, 8, 8, 8, 8, 8, 8, 8, 8, 8, 8, 8, 8, 8]⟩ : ByteArray) (((a0 / 65536) / 256) % 256)))))) else (none)) else (none)) else (if 0 ≤ ((a0 / 65536) % 256) then (if ((a0 / 65536) % 256) < 256 then (some (wrap64 ((0 + 16) + (wrap64 (bt (⟨#[0, 1, 2, 2, 3, 3, 3, 3, 4, 4, 4, 4, 4, 4, 4, 4, 5, 5, 5, 5, 5, 5, 5, 5, 5, 5, 5, 5, 5, 5, 5, 5, 6, 6, 6, 6, 6, 6, 6, 6, 6, 6, 6, 6, 6, 6, 6, 6, 6, 6, 6, 6, 6, 6, 6, 6, 6, 6, 6, 6, 6, 6, 6, 6, 7, 7, 7, 7, 7, 7, 7, 7, 7, 7, 7, 7, 7, 7, 7, 7, 7, 7, 7, 7, 7, 7, 7, 7, 7, 7, 7, 7, 7, 7, 7, 7, 7, 7, 7, 7, 7, 7, 7, 7, 7, 7, 7, 7, 7, 7, 7, 7, 7, 7, 7, 7, 7, 7, 7, 7, 7, 7, 7, 7, 7, 7, 7, 7, 8, 8, 8, 8, 8, 8, 8, 8, 8, 8, 8, 8, 8, 8, 8, 8, 8, 8, 8, 8, 8, 8, 8, 8, 8, 8, 8, 8, 8, 8, 8, 8, 8, 8, 8, 8, 8, 8, 8, 8, 8, 8, 8, 8, 8, 8, 8, 8, 8, 8, 8, 8, 8, 8, 8, 8, 8, 8, 8, 8, 8, 8, 8, 8, 8, 8, 8, 8, 8, 8, 8, 8, 8, 8, 8, 8, 8, 8, 8, 8, 8, 8, 8, 8, 8, 8, 8, 8, 8, 8, 8, 8, 8, 8, 8, 8, 8, 8, 8, 8, 8, 8, 8, 8, 8, 8, 8, 8, 8, 8, 8, 8, 8, 8, 8, 8, 8, 8, 8, 8, 8, 8, 8, 8, 8, 8, 8, 8]⟩ : ByteArray) ((a0 / 65536) % 256)))))) else (none)) else (none))) else (if a0 ≥ 256 then (if 0 ≤ ((a0 / 256) % 256) then (if ((a0 / 256) % 256) < 256 then (some (wrap64 ((0 + 8) + (wrap64 (bt (⟨#[0, 1, 2, 2, 3, 3, 3, 3, 4, 4, 4, 4, 4, 4, 4, 4, 5, 5, 5, 5, 5, 5, 5, 5, 5, 5, 5, 5, 5, 5, 5, 5, 6, 6, 6, 6, 6, 6, 6, 6, 6, 6, 6, 6, 6, 6, 6, 6, 6, 6, 6, 6, 6, 6, 6, 6, 6, 6, 6, 6, 6, 6, 6, 6, 7, 7, 7, 7, 7, 7, 7, 7, 7, 7, 7, 7, 7, 7, 7, 7, 7, 7, 7, 7, 7, 7, 7, 7, 7, 7, 7, 7, 7, 7, 7, 7, 7, 7, 7, 7, 7, 7, 7, 7, 7, 7, 7, 7, 7, 7, 7, 7, 7, 7, 7, 7, 7, 7, 7, 7, 7, 7, 7, 7, 7, 7, 7, 7, 8, 8, 8, 8, 8, 8, 8, 8, 8, 8, 8, 8, 8, 8, 8, 8, 8, 8, 8, 8, 8, 8, 8, 8, 8, 8, 8, 8, 8, 8, 8, 8, 8, 8, 8, 8, 8, 8, 8, 8, 8, 8, 8, 8, 8, 8, 8, 8, 8, 8, 8, 8, 8, 8, 8, 8, 8, 8, 8, 8, 8, 8, 8, 8, 8, 8, 8, 8, 8, 8, 8, 8, 8, 8, 8, 8, 8, 8, 8, 8, 8, 8, 8, 8, 8, 8, 8, 8, 8, 8, 8, 8, 8, 8, 8, 8, 8, 8, 8, 8, 8, 8, 8, 8, 8, 8, 8, 8, 8, 8, 8, 8, 8, 8, 8, 8, 8, 8, 8, 8, 8, 8, 8, 8, 8, 8, 8, 8]⟩ : ByteArray) ((a0 / 256) % 256)))))) else (none)) else (none)) else (if 0 ≤ ((a0) % 256) then (if ((a0) % 256) < 256 then (some (wrap64 (0 + (wrap64 (bt (⟨#[0, 1, 2, 2, 3, 3, 3, 3, 4, 4, 4, 4, 4, 4, 4, 4, 5, 5, 5, 5, 5, 5, 5, 5, 5, 5, 5, 5, 5, 5, 5, 5, 6, 6, 6, 6, 6, 6, 6, 6, 6, 6, 6, 6, 6, 6, 6, 6, 6, 6, 6, 6, 6, 6, 6, 6, 6, 6, 6, 6, 6, 6, 6, 6, 7, 7, 7, 7, 7, 7, 7, 7, 7, 7, 7, 7, 7, 7, 7, 7, 7, 7, 7, 7, 7, 7, 7, 7, 7, 7, 7, 7, 7, 7, 7, 7, 7, 7, 7, 7, 7, 7, 7, 7, 7, 7, 7, 7, 7, 7, 7, 7, 7, 7, 7, 7, 7, 7, 7, 7, 7, 7, 7, 7, 7, 7, 7, 7, 8, 8, 8, 8, 8, 8, 8, 8, 8, 8, 8, 8, 8, 8, 8, 8, 8, 8, 8, 8, 8, 8, 8, 8, 8, 8, 8, 8, 8, 8, 8, 8, 8, 8, 8, 8, 8, 8, 8, 8, 8, 8, 8, 8, 8, 8, 8, 8, 8, 8, 8, 8, 8, 8, 8, 8, 8, 8, 8, 8, 8, 8, 8, 8, 8, 8, 8, 8, 8, 8, 8, 8, 8, 8, 8, 8, 8, 8, 8, 8, 8, 8, 8, 8, 8, 8, 8, 8, 8, 8, 8, 8, 8, 8, 8, 8, 8, 8, 8, 8, 8, 8, 8, 8, 8, 8, 8, 8, 8, 8, 8, 8, 8, 8, 8, 8, 8, 8, 8, 8, 8, 8, 8, 8, 8, 8, 8, 8]⟩ : ByteArray) ((a0) % 256)))))) else (none)) else (none))))) = some r := h
  clear h
  by_cases c2 : a0 ≥ 4294967296
  · rw [if_pos c2] at H
    have c2b0 : decide (4294967296 ≤ a0) = true := decide_eq_true c2
    clear c2
    by_cases c3 : (a0 / 4294967296) ≥ 65536
    · rw [if_pos c3] at H
      have c3b0 : decide (65536 ≤ (a0 / 4294967296)) = true := decide_eq_true c3
      clear c3
      by_cases c4 : ((a0 / 4294967296) / 65536) ≥ 256
      · rw [if_pos c4] at H
        have c4b0 : decide (256 ≤ ((a0 / 4294967296) / 65536)) = true := decide_eq_true c4
        clear c4
        obtain ⟨ji5, hji5⟩ : ∃ j_ : Int, ((((a0 / 4294967296) / 65536) / 256) % 256) = j_ := ⟨_, rfl⟩
        replace H : (if 0 ≤ (ji5) then (if (ji5) < 256 then (some (wrap64 (((32 + 16) + 8) + (wrap64 (bt (⟨#[0, 1, 2, 2, 3, 3, 3, 3, 4, 4, 4, 4, 4, 4, 4, 4, 5, 5, 5, 5, 5, 5, 5, 5, 5, 5, 5, 5, 5, 5, 5, 5, 6, 6, 6, 6, 6, 6, 6, 6, 6, 6, 6, 6, 6, 6, 6, 6, 6, 6, 6, 6, 6, 6, 6, 6, 6, 6, 6, 6, 6, 6, 6, 6, 7, 7, 7, 7, 7, 7, 7, 7, 7, 7, 7, 7, 7, 7, 7, 7, 7, 7, 7, 7, 7, 7, 7, 7, 7, 7, 7, 7, 7, 7, 7, 7, 7, 7, 7, 7, 7, 7, 7, 7, 7, 7, 7, 7, 7, 7, 7, 7, 7, 7, 7, 7, 7, 7, 7, 7, 7, 7, 7, 7, 7, 7, 7, 7, 8, 8, 8, 8, 8, 8, 8, 8, 8, 8, 8, 8, 8, 8, 8, 8, 8, 8, 8, 8, 8, 8, 8, 8, 8, 8, 8, 8, 8, 8, 8, 8, 8, 8, 8, 8, 8, 8, 8, 8, 8, 8, 8, 8, 8, 8, 8, 8, 8, 8, 8, 8, 8, 8, 8, 8, 8, 8, 8, 8, 8, 8, 8, 8, 8, 8, 8, 8, 8, 8, 8, 8, 8, 8, 8, 8, 8, 8, 8, 8, 8, 8, 8, 8, 8, 8, 8, 8, 8, 8, 8, 8, 8, 8, 8, 8, 8, 8, 8, 8, 8, 8, 8, 8, 8, 8, 8, 8, 8, 8, 8, 8, 8, 8, 8, 8, 8, 8, 8, 8, 8, 8, 8, 8, 8, 8, 8, 8]⟩ : ByteArray) (ji5)))))) else (none)) else (none)) = some r := by first | (rw [hji5] at H; exact H) | (simp only [hji5] at H ⊢; exact H)
        by_cases c6 : 0 ≤ (ji5)
        · rw [if_pos c6] at H
          have c6b0 : decide (0 ≤ (ji5)) = true := decide_eq_true c6
          clear c6
          by_cases c7 : (ji5) < 256
          · rw [if_pos c7] at H
            have c7b0 : decide ((ji5) < 256) = true := decide_eq_true c7
            clear c7
            obtain rfl := Option.some.inj H
            have p8 : 0 ≤ ((ji5) : Int) := of_decide_eq_true (by first | (with_reducible assumption) | assumption)
            have q8 : (ji5) < (256 : Int) := of_decide_eq_true (by first | (with_reducible assumption) | assumption)
            have hx8 := bt_at (⟨#[0, 1, 2, 2, 3, 3, 3, 3, 4, 4, 4, 4, 4, 4, 4, 4, 5, 5, 5, 5, 5, 5, 5, 5, 5, 5, 5, 5, 5, 5, 5, 5, 6, 6, 6, 6, 6, 6, 6, 6, 6, 6, 6, 6, 6, 6, 6, 6, 6, 6, 6, 6, 6, 6, 6, 6, 6, 6, 6, 6, 6, 6, 6, 6, 7, 7, 7, 7, 7, 7, 7, 7, 7, 7, 7, 7, 7, 7, 7, 7, 7, 7, 7, 7, 7, 7, 7, 7, 7, 7, 7, 7, 7, 7, 7, 7, 7, 7, 7, 7, 7, 7, 7, 7, 7, 7, 7, 7, 7, 7, 7, 7, 7, 7, 7, 7, 7, 7, 7, 7, 7, 7, 7, 7, 7, 7, 7, 7, 8, 8, 8, 8, 8, 8, 8, 8, 8, 8, 8, 8, 8, 8, 8, 8, 8, 8, 8, 8, 8, 8, 8, 8, 8, 8, 8, 8, 8, 8, 8, 8, 8, 8, 8, 8, 8, 8, 8, 8, 8, 8, 8, 8, 8, 8, 8, 8, 8, 8, 8, 8, 8, 8, 8, 8, 8, 8, 8, 8, 8, 8, 8, 8, 8, 8, 8, 8, 8, 8, 8, 8, 8, 8, 8, 8, 8, 8, 8, 8, 8, 8, 8, 8, 8, 8, 8, 8, 8, 8, 8, 8, 8, 8, 8, 8, 8, 8, 8, 8, 8, 8, 8, 8, 8, 8, 8, 8, 8, 8, 8, 8, 8, 8, 8, 8, 8, 8, 8, 8, 8, 8, 8, 8, 8, 8, 8, 8]⟩ : ByteArray) (ji5)
            replace p8 := eq_true p8
            replace q8 := eq_true q8
            go_enter Try.func143, Try.ntmps143
            go_wp2
            go_ret
            exact ⟨by first | rfl | (simp; done) | (simp only [← hji5] <;> (first | rfl | simp)) | (simp [*]; done), by repeat (first | exact Drawn0.refl _ | apply Drawn0.step)⟩
          · rw [if_neg c7] at H
            exact absurd H (by simp)
        · rw [if_neg c6] at H
          exact absurd H (by simp)
      · rw [if_neg c4] at H
        have c4b0 : decide (256 ≤ ((a0 / 4294967296) / 65536)) = false := decide_eq_false c4
        clear c4
        obtain ⟨ji9, hji9⟩ : ∃ j_ : Int, (((a0 / 4294967296) / 65536) % 256) = j_ := ⟨_, rfl⟩
        replace H : (if 0 ≤ (ji9) then (if (ji9) < 256 then (some (wrap64 ((32 + 16) + (wrap64 (bt (⟨#[0, 1, 2, 2, 3, 3, 3, 3, 4, 4, 4, 4, 4, 4, 4, 4, 5, 5, 5, 5, 5, 5, 5, 5, 5, 5, 5, 5, 5, 5, 5, 5, 6, 6, 6, 6, 6, 6, 6, 6, 6, 6, 6, 6, 6, 6, 6, 6, 6, 6, 6, 6, 6, 6, 6, 6, 6, 6, 6, 6, 6, 6, 6, 6, 7, 7, 7, 7, 7, 7, 7, 7, 7, 7, 7, 7, 7, 7, 7, 7, 7, 7, 7, 7, 7, 7, 7, 7, 7, 7, 7, 7, 7, 7, 7, 7, 7, 7, 7, 7, 7, 7, 7, 7, 7, 7, 7, 7, 7, 7, 7, 7, 7, 7, 7, 7, 7, 7, 7, 7, 7, 7, 7, 7, 7, 7, 7, 7, 8, 8, 8, 8, 8, 8, 8, 8, 8, 8, 8, 8, 8, 8, 8, 8, 8, 8, 8, 8, 8, 8, 8, 8, 8, 8, 8, 8, 8, 8, 8, 8, 8, 8, 8, 8, 8, 8, 8, 8, 8, 8, 8, 8, 8, 8, 8, 8, 8, 8, 8, 8, 8, 8, 8, 8, 8, 8, 8, 8, 8, 8, 8, 8, 8, 8, 8, 8, 8, 8, 8, 8, 8, 8, 8, 8, 8, 8, 8, 8, 8, 8, 8, 8, 8, 8, 8, 8, 8, 8, 8, 8, 8, 8, 8, 8, 8, 8, 8, 8, 8, 8, 8, 8, 8, 8, 8, 8, 8, 8, 8, 8, 8, 8, 8, 8, 8, 8, 8, 8, 8, 8, 8, 8, 8, 8, 8, 8]⟩ : ByteArray) (ji9)))))) else (none)) else (none)) = some r := by first | (rw [hji9] at H; exact H) | (simp only [hji9] at H ⊢; exact H)
        by_cases c10 : 0 ≤ (ji9)
        · rw [if_pos c10] at H
          have c10b0 : decide (0 ≤ (ji9)) = true := decide_eq_true c10
          clear c10
          by_cases c11 : (ji9) < 256
          · rw [if_pos c11] at H
            have c11b0 : decide ((ji9) < 256) = true := decide_eq_true c11
            clear c11
            obtain rfl := Option.some.inj H
            have p12 : 0 ≤ ((ji9) : Int) := of_decide_eq_true (by first | (with_reducible assumption) | assumption)
            have q12 : (ji9) < (256 : Int) := of_decide_eq_true (by first | (with_reducible assumption) | assumption)
            have hx12 := bt_at (⟨#[0, 1, 2, 2, 3, 3, 3, 3, 4, 4, 4, 4, 4, 4, 4, 4, 5, 5, 5, 5, 5, 5, 5, 5, 5, 5, 5, 5, 5, 5, 5, 5, 6, 6, 6, 6, 6, 6, 6, 6, 6, 6, 6, 6, 6, 6, 6, 6, 6, 6, 6, 6, 6, 6, 6, 6, 6, 6, 6, 6, 6, 6, 6, 6, 7, 7, 7, 7, 7, 7, 7, 7, 7, 7, 7, 7, 7, 7, 7, 7, 7, 7, 7, 7, 7, 7, 7, 7, 7, 7, 7, 7, 7, 7, 7, 7, 7, 7, 7, 7, 7, 7, 7, 7, 7, 7, 7, 7, 7, 7, 7, 7, 7, 7, 7, 7, 7, 7, 7, 7, 7, 7, 7, 7, 7, 7, 7, 7, 8, 8, 8, 8, 8, 8, 8, 8, 8, 8, 8, 8, 8, 8, 8, 8, 8, 8, 8, 8, 8, 8, 8, 8, 8, 8, 8, 8, 8, 8, 8, 8, 8, 8, 8, 8, 8, 8, 8, 8, 8, 8, 8, 8, 8, 8, 8, 8, 8, 8, 8, 8, 8, 8, 8, 8, 8, 8, 8, 8, 8, 8, 8, 8, 8, 8, 8, 8, 8, 8, 8, 8, 8, 8, 8, 8, 8, 8, 8, 8, 8, 8, 8, 8, 8, 8, 8, 8, 8, 8, 8, 8, 8, 8, 8, 8, 8, 8, 8, 8, 8, 8, 8, 8, 8, 8, 8, 8, 8, 8, 8, 8, 8, 8, 8, 8, 8, 8, 8, 8, 8, 8, 8, 8, 8, 8, 8, 8]⟩ : ByteArray) (ji9)
            replace p12 := eq_true p12
            replace q12 := eq_true q12
            go_enter Try.func143, Try.ntmps143
            go_wp2
            go_ret
            exact ⟨by first | rfl | (simp; done) | (simp only [← hji9] <;> (first | rfl | simp)) | (simp [*]; done), by repeat (first | exact Drawn0.refl _ | apply Drawn0.step)⟩
          · rw [if_neg c11] at H
            exact absurd H (by simp)
        · rw [if_neg c10] at H
          exact absurd H (by simp)
    · rw [if_neg c3] at H
      have c3b0 : decide (65536 ≤ (a0 / 4294967296)) = false := decide_eq_false c3
      clear c3
      by_cases c13 : (a0 / 4294967296) ≥ 256
      · rw [if_pos c13] at H
        have c13b0 : decide (256 ≤ (a0 / 4294967296)) = true := decide_eq_true c13
        clear c13
        obtain ⟨ji14, hji14⟩ : ∃ j_ : Int, (((a0 / 4294967296) / 256) % 256) = j_ := ⟨_, rfl⟩
        replace H : (if 0 ≤ (ji14) then (if (ji14) < 256 then (some (wrap64 ((32 + 8) + (wrap64 (bt (⟨#[0, 1, 2, 2, 3, 3, 3, 3, 4, 4, 4, 4, 4, 4, 4, 4, 5, 5, 5, 5, 5, 5, 5, 5, 5, 5, 5, 5, 5, 5, 5, 5, 6, 6, 6, 6, 6, 6, 6, 6, 6, 6, 6, 6, 6, 6, 6, 6, 6, 6, 6, 6, 6, 6, 6, 6, 6, 6, 6, 6, 6, 6, 6, 6, 7, 7, 7, 7, 7, 7, 7, 7, 7, 7, 7, 7, 7, 7, 7, 7, 7, 7, 7, 7, 7, 7, 7, 7, 7, 7, 7, 7, 7, 7, 7, 7, 7, 7, 7, 7, 7, 7, 7, 7, 7, 7, 7, 7, 7, 7, 7, 7, 7, 7, 7, 7, 7, 7, 7, 7, 7, 7, 7, 7, 7, 7, 7, 7, 8, 8, 8, 8, 8, 8, 8, 8, 8, 8, 8, 8, 8, 8, 8, 8, 8, 8, 8, 8, 8, 8, 8, 8, 8, 8, 8, 8, 8, 8, 8, 8, 8, 8, 8, 8, 8, 8, 8, 8, 8, 8, 8, 8, 8, 8, 8, 8, 8, 8, 8, 8, 8, 8, 8, 8, 8, 8, 8, 8, 8, 8, 8, 8, 8, 8, 8, 8, 8, 8, 8, 8, 8, 8, 8, 8, 8, 8, 8, 8, 8, 8, 8, 8, 8, 8, 8, 8, 8, 8, 8, 8, 8, 8, 8, 8, 8, 8, 8, 8, 8, 8, 8, 8, 8, 8, 8, 8, 8, 8, 8, 8, 8, 8, 8, 8, 8, 8, 8, 8, 8, 8, 8, 8, 8, 8, 8, 8]⟩ : ByteArray) (ji14)))))) else (none)) else (none)) = some r := by first | (rw [hji14] at H; exact H) | (simp only [hji14] at H ⊢; exact H)
        by_cases c15 : 0 ≤ (ji14)
        · rw [if_pos c15] at H
          have c15b0 : decide (0 ≤ (ji14)) = true := decide_eq_true c15
          clear c15
          by_cases c16 : (ji14) < 256
          · rw [if_pos c16] at H
            have c16b0 : decide ((ji14) < 256) = true := decide_eq_true c16
            clear c16
            obtain rfl := Option.some.inj H
            have p17 : 0 ≤ ((ji14) : Int) := of_decide_eq_true (by first | (with_reducible assumption) | assumption)
            have q17 : (ji14) < (256 : Int) := of_decide_eq_true (by first | (with_reducible assumption) | assumption)
            have hx17 := bt_at (⟨#[0, 1, 2, 2, 3, 3, 3, 3, 4, 4, 4, 4, 4, 4, 4, 4, 5, 5, 5, 5, 5, 5, 5, 5, 5, 5, 5, 5, 5, 5, 5, 5, 6, 6, 6, 6, 6, 6, 6, 6, 6, 6, 6, 6, 6, 6, 6, 6, 6, 6, 6, 6, 6, 6, 6, 6, 6, 6, 6, 6, 6, 6, 6, 6, 7, 7, 7, 7, 7, 7, 7, 7, 7, 7, 7, 7, 7, 7, 7, 7, 7, 7, 7, 7, 7, 7, 7, 7, 7, 7, 7, 7, 7, 7, 7, 7, 7, 7, 7, 7, 7, 7, 7, 7, 7, 7, 7, 7, 7, 7, 7, 7, 7, 7, 7, 7, 7, 7, 7, 7, 7, 7, 7, 7, 7, 7, 7, 7, 8, 8, 8, 8, 8, 8, 8, 8, 8, 8, 8, 8, 8, 8, 8, 8, 8, 8, 8, 8, 8, 8, 8, 8, 8, 8, 8, 8, 8, 8, 8, 8, 8, 8, 8, 8, 8, 8, 8, 8, 8, 8, 8, 8, 8, 8, 8, 8, 8, 8, 8, 8, 8, 8, 8, 8, 8, 8, 8, 8, 8, 8, 8, 8, 8, 8, 8, 8, 8, 8, 8, 8, 8, 8, 8, 8, 8, 8, 8, 8, 8, 8, 8, 8, 8, 8, 8, 8, 8, 8, 8, 8, 8, 8, 8, 8, 8, 8, 8, 8, 8, 8, 8, 8, 8, 8, 8, 8, 8, 8, 8, 8, 8, 8, 8, 8, 8, 8, 8, 8, 8, 8, 8, 8, 8, 8, 8, 8]⟩ : ByteArray) (ji14)
            replace p17 := eq_true p17
            replace q17 := eq_true q17
            go_enter Try.func143, Try.ntmps143
            go_wp2
            go_ret
            exact ⟨by first | rfl | (simp; done) | (simp only [← hji14] <;> (first | rfl | simp)) | (simp [*]; done), by repeat (first | exact Drawn0.refl _ | apply Drawn0.step)⟩
          · rw [if_neg c16] at H
            exact absurd H (by simp)
        · rw [if_neg c15] at H
          exact absurd H (by simp)
      · rw [if_neg c13] at H
        have c13b0 : decide (256 ≤ (a0 / 4294967296)) = false := decide_eq_false c13
        clear c13
        obtain ⟨ji18, hji18⟩ : ∃ j_ : Int, ((a0 / 4294967296) % 256) = j_ := ⟨_, rfl⟩
        replace H : (if 0 ≤ (ji18) then (if (ji18) < 256 then (some (wrap64 (32 + (wrap64 (bt (⟨#[0, 1, 2, 2, 3, 3, 3, 3, 4, 4, 4, 4, 4, 4, 4, 4, 5, 5, 5, 5, 5, 5, 5, 5, 5, 5, 5, 5, 5, 5, 5, 5, 6, 6, 6, 6, 6, 6, 6, 6, 6, 6, 6, 6, 6, 6, 6, 6, 6, 6, 6, 6, 6, 6, 6, 6, 6, 6, 6, 6, 6, 6, 6, 6, 7, 7, 7, 7, 7, 7, 7, 7, 7, 7, 7, 7, 7, 7, 7, 7, 7, 7, 7, 7, 7, 7, 7, 7, 7, 7, 7, 7, 7, 7, 7, 7, 7, 7, 7, 7, 7, 7, 7, 7, 7, 7, 7, 7, 7, 7, 7, 7, 7, 7, 7, 7, 7, 7, 7, 7, 7, 7, 7, 7, 7, 7, 7, 7, 8, 8, 8, 8, 8, 8, 8, 8, 8, 8, 8, 8, 8, 8, 8, 8, 8, 8, 8, 8, 8, 8, 8, 8, 8, 8, 8, 8, 8, 8, 8, 8, 8, 8, 8, 8, 8, 8, 8, 8, 8, 8, 8, 8, 8, 8, 8, 8, 8, 8, 8, 8, 8, 8, 8, 8, 8, 8, 8, 8, 8, 8, 8, 8, 8, 8, 8, 8, 8, 8, 8, 8, 8, 8, 8, 8, 8, 8, 8, 8, 8, 8, 8, 8, 8, 8, 8, 8, 8, 8, 8, 8, 8, 8, 8, 8, 8, 8, 8, 8, 8, 8, 8, 8, 8, 8, 8, 8, 8, 8, 8, 8, 8, 8, 8, 8, 8, 8, 8, 8, 8, 8, 8, 8, 8, 8, 8, 8]⟩ : ByteArray) (ji18)))))) else (none)) else (none)) = some r := by first | (rw [hji18] at H; exact H) | (simp only [hji18] at H ⊢; exact H)
        by_cases c19 : 0 ≤ (ji18)
        · rw [if_pos c19] at H
          have c19b0 : decide (0 ≤ (ji18)) = true := decide_eq_true c19
          clear c19
          by_cases c20 : (ji18) < 256
          · rw [if_pos c20] at H
            have c20b0 : decide ((ji18) < 256) = true := decide_eq_true c20
            clear c20
            obtain rfl := Option.some.inj H
            have p21 : 0 ≤ ((ji18) : Int) := of_decide_eq_true (by first | (with_reducible assumption) | assumption)
            have q21 : (ji18) < (256 : Int) := of_decide_eq_true (by first | (with_reducible assumption) | assumption)
            have hx21 := bt_at (⟨#[0, 1, 2, 2, 3, 3, 3, 3, 4, 4, 4, 4, 4, 4, 4, 4, 5, 5, 5, 5, 5, 5, 5, 5, 5, 5, 5, 5, 5, 5, 5, 5, 6, 6, 6, 6, 6, 6, 6, 6, 6, 6, 6, 6, 6, 6, 6, 6, 6, 6, 6, 6, 6, 6, 6, 6, 6, 6, 6, 6, 6, 6, 6, 6, 7, 7, 7, 7, 7, 7, 7, 7, 7, 7, 7, 7, 7, 7, 7, 7, 7, 7, 7, 7, 7, 7, 7, 7, 7, 7, 7, 7, 7, 7, 7, 7, 7, 7, 7, 7, 7, 7, 7, 7, 7, 7, 7, 7, 7, 7, 7, 7, 7, 7, 7, 7, 7, 7, 7, 7, 7, 7, 7, 7, 7, 7, 7, 7, 8, 8, 8, 8, 8, 8, 8, 8, 8, 8, 8, 8, 8, 8, 8, 8, 8, 8, 8, 8, 8, 8, 8, 8, 8, 8, 8, 8, 8, 8, 8, 8, 8, 8, 8, 8, 8, 8, 8, 8, 8, 8, 8, 8, 8, 8, 8, 8, 8, 8, 8, 8, 8, 8, 8, 8, 8, 8, 8, 8, 8, 8, 8, 8, 8, 8, 8, 8, 8, 8, 8, 8, 8, 8, 8, 8, 8, 8, 8, 8, 8, 8, 8, 8, 8, 8, 8, 8, 8, 8, 8, 8, 8, 8, 8, 8, 8, 8, 8, 8, 8, 8, 8, 8, 8, 8, 8, 8, 8, 8, 8, 8, 8, 8, 8, 8, 8, 8, 8, 8, 8, 8, 8, 8, 8, 8, 8, 8]⟩ : ByteArray) (ji18)
            replace p21 := eq_true p21
            replace q21 := eq_true q21
            go_enter Try.func143, Try.ntmps143
            go_wp2
            go_ret
            exact ⟨by first | rfl | (simp; done) | (simp only [← hji18] <;> (first | rfl | simp)) | (simp [*]; done), by repeat (first | exact Drawn0.refl _ | apply Drawn0.step)⟩
          · rw [if_neg c20] at H
            exact absurd H (by simp)
        · rw [if_neg c19] at H
          exact absurd H (by simp)
  · rw [if_neg c2] at H
    have c2b0 : decide (4294967296 ≤ a0) = false := decide_eq_false c2
    clear c2
    by_cases c22 : a0 ≥ 65536
    · rw [if_pos c22] at H
      have c22b0 : decide (65536 ≤ a0) = true := decide_eq_true c22
      clear c22
      by_cases c23 : (a0 / 65536) ≥ 256
      · rw [if_pos c23] at H
        have c23b0 : decide (256 ≤ (a0 / 65536)) = true := decide_eq_true c23
        clear c23
        obtain ⟨ji24, hji24⟩ : ∃ j_ : Int, (((a0 / 65536) / 256) % 256) = j_ := ⟨_, rfl⟩
        replace H : (if 0 ≤ (ji24) then (if (ji24) < 256 then (some (wrap64 (((0 + 16) + 8) + (wrap64 (bt (⟨#[0, 1, 2, 2, 3, 3, 3, 3, 4, 4, 4, 4, 4, 4, 4, 4, 5, 5, 5, 5, 5, 5, 5, 5, 5, 5, 5, 5, 5, 5, 5, 5, 6, 6, 6, 6, 6, 6, 6, 6, 6, 6, 6, 6, 6, 6, 6, 6, 6, 6, 6, 6, 6, 6, 6, 6, 6, 6, 6, 6, 6, 6, 6, 6, 7, 7, 7, 7, 7, 7, 7, 7, 7, 7, 7, 7, 7, 7, 7, 7, 7, 7, 7, 7, 7, 7, 7, 7, 7, 7, 7, 7, 7, 7, 7, 7, 7, 7, 7, 7, 7, 7, 7, 7, 7, 7, 7, 7, 7, 7, 7, 7, 7, 7, 7, 7, 7, 7, 7, 7, 7, 7, 7, 7, 7, 7, 7, 7, 8, 8, 8, 8, 8, 8, 8, 8, 8, 8, 8, 8, 8, 8, 8, 8, 8, 8, 8, 8, 8, 8, 8, 8, 8, 8, 8, 8, 8, 8, 8, 8, 8, 8, 8, 8, 8, 8, 8, 8, 8, 8, 8, 8, 8, 8, 8, 8, 8, 8, 8, 8, 8, 8, 8, 8, 8, 8, 8, 8, 8, 8, 8, 8, 8, 8, 8, 8, 8, 8, 8, 8, 8, 8, 8, 8, 8, 8, 8, 8, 8, 8, 8, 8, 8, 8, 8, 8, 8, 8, 8, 8, 8, 8, 8, 8, 8, 8, 8, 8, 8, 8, 8, 8, 8, 8, 8, 8, 8, 8, 8, 8, 8, 8, 8, 8, 8, 8, 8, 8, 8, 8, 8, 8, 8, 8, 8, 8]⟩ : ByteArray) (ji24)))))) else (none)) else (none)) = some r := by first | (rw [hji24] at H; exact H) | (simp only [hji24] at H ⊢; exact H)
        by_cases c25 : 0 ≤ (ji24)
        · rw [if_pos c25] at H
          have c25b0 : decide (0 ≤ (ji24)) = true := decide_eq_true c25
          clear c25
          by_cases c26 : (ji24) < 256
          · rw [if_pos c26] at H
            have c26b0 : decide ((ji24) < 256) = true := decide_eq_true c26
            clear c26
            obtain rfl := Option.some.inj H
            have p27 : 0 ≤ ((ji24) : Int) := of_decide_eq_true (by first | (with_reducible assumption) | assumption)
            have q27 : (ji24) < (256 : Int) := of_decide_eq_true (by first | (with_reducible assumption) | assumption)
            have hx27 := bt_at (⟨#[0, 1, 2, 2, 3, 3, 3, 3, 4, 4, 4, 4, 4, 4, 4, 4, 5, 5, 5, 5, 5, 5, 5, 5, 5, 5, 5, 5, 5, 5, 5, 5, 6, 6, 6, 6, 6, 6, 6, 6, 6, 6, 6, 6, 6, 6, 6, 6, 6, 6, 6, 6, 6, 6, 6, 6, 6, 6, 6, 6, 6, 6, 6, 6, 7, 7, 7, 7, 7, 7, 7, 7, 7, 7, 7, 7, 7, 7, 7, 7, 7, 7, 7, 7, 7, 7, 7, 7, 7, 7, 7, 7, 7, 7, 7, 7, 7, 7, 7, 7, 7, 7, 7, 7, 7, 7, 7, 7, 7, 7, 7, 7, 7, 7, 7, 7, 7, 7, 7, 7, 7, 7, 7, 7, 7, 7, 7, 7, 8, 8, 8, 8, 8, 8, 8, 8, 8, 8, 8, 8, 8, 8, 8, 8, 8, 8, 8, 8, 8, 8, 8, 8, 8, 8, 8, 8, 8, 8, 8, 8, 8, 8, 8, 8, 8, 8, 8, 8, 8, 8, 8, 8, 8, 8, 8, 8, 8, 8, 8, 8, 8, 8, 8, 8, 8, 8, 8, 8, 8, 8, 8, 8, 8, 8, 8, 8, 8, 8, 8, 8, 8, 8, 8, 8, 8, 8, 8, 8, 8, 8, 8, 8, 8, 8, 8, 8, 8, 8, 8, 8, 8, 8, 8, 8, 8, 8, 8, 8, 8, 8, 8, 8, 8, 8, 8, 8, 8, 8, 8, 8, 8, 8, 8, 8, 8, 8, 8, 8, 8, 8, 8, 8, 8, 8, 8, 8]⟩ : ByteArray) (ji24)
            replace p27 := eq_true p27
            replace q27 := eq_true q27
            go_enter Try.func143, Try.ntmps143
            go_wp2
            go_ret
            exact ⟨by first | rfl | (simp; done) | (simp only [← hji24] <;> (first | rfl | simp)) | (simp [*]; done), by repeat (first | exact Drawn0.refl _ | apply Drawn0.step)⟩
          · rw [if_neg c26] at H
            exact absurd H (by simp)
        · rw [if_neg c25] at H
          exact absurd H (by simp)
      · rw [if_neg c23] at H
        have c23b0 : decide (256 ≤ (a0 / 65536)) = false := decide_eq_false c23
        clear c23
        obtain ⟨ji28, hji28⟩ : ∃ j_ : Int, ((a0 / 65536) % 256) = j_ := ⟨_, rfl⟩
        replace H : (if 0 ≤ (ji28) then (if (ji28) < 256 then (some (wrap64 ((0 + 16) + (wrap64 (bt (⟨#[0, 1, 2, 2, 3, 3, 3, 3, 4, 4, 4, 4, 4, 4, 4, 4, 5, 5, 5, 5, 5, 5, 5, 5, 5, 5, 5, 5, 5, 5, 5, 5, 6, 6, 6, 6, 6, 6, 6, 6, 6, 6, 6, 6, 6, 6, 6, 6, 6, 6, 6, 6, 6, 6, 6, 6, 6, 6, 6, 6, 6, 6, 6, 6, 7, 7, 7, 7, 7, 7, 7, 7, 7, 7, 7, 7, 7, 7, 7, 7, 7, 7, 7, 7, 7, 7, 7, 7, 7, 7, 7, 7, 7, 7, 7, 7, 7, 7, 7, 7, 7, 7, 7, 7, 7, 7, 7, 7, 7, 7, 7, 7, 7, 7, 7, 7, 7, 7, 7, 7, 7, 7, 7, 7, 7, 7, 7, 7, 8, 8, 8, 8, 8, 8, 8, 8, 8, 8, 8, 8, 8, 8, 8, 8, 8, 8, 8, 8, 8, 8, 8, 8, 8, 8, 8, 8, 8, 8, 8, 8, 8, 8, 8, 8, 8, 8, 8, 8, 8, 8, 8, 8, 8, 8, 8, 8, 8, 8, 8, 8, 8, 8, 8, 8, 8, 8, 8, 8, 8, 8, 8, 8, 8, 8, 8, 8, 8, 8, 8, 8, 8, 8, 8, 8, 8, 8, 8, 8, 8, 8, 8, 8, 8, 8, 8, 8, 8, 8, 8, 8, 8, 8, 8, 8, 8, 8, 8, 8, 8, 8, 8, 8, 8, 8, 8, 8, 8, 8, 8, 8, 8, 8, 8, 8, 8, 8, 8, 8, 8, 8, 8, 8, 8, 8, 8, 8]⟩ : ByteArray) (ji28)))))) else (none)) else (none)) = some r := by first | (rw [hji28] at H; exact H) | (simp only [hji28] at H ⊢; exact H)
        by_cases c29 : 0 ≤ (ji28)
        · rw [if_pos c29] at H
          have c29b0 : decide (0 ≤ (ji28)) = true := decide_eq_true c29
          clear c29
          by_cases c30 : (ji28) < 256
          · rw [if_pos c30] at H
            have c30b0 : decide ((ji28) < 256) = true := decide_eq_true c30
            clear c30
            obtain rfl := Option.some.inj H
            have p31 : 0 ≤ ((ji28) : Int) := of_decide_eq_true (by first | (with_reducible assumption) | assumption)
            have q31 : (ji28) < (256 : Int) := of_decide_eq_true (by first | (with_reducible assumption) | assumption)
            have hx31 := bt_at (⟨#[0, 1, 2, 2, 3, 3, 3, 3, 4, 4, 4, 4, 4, 4, 4, 4, 5, 5, 5, 5, 5, 5, 5, 5, 5, 5, 5, 5, 5, 5, 5, 5, 6, 6, 6, 6, 6, 6, 6, 6, 6, 6, 6, 6, 6, 6, 6, 6, 6, 6, 6, 6, 6, 6, 6, 6, 6, 6, 6, 6, 6, 6, 6, 6, 7, 7, 7, 7, 7, 7, 7, 7, 7, 7, 7, 7, 7, 7, 7, 7, 7, 7, 7, 7, 7, 7, 7, 7, 7, 7, 7, 7, 7, 7, 7, 7, 7, 7, 7, 7, 7, 7, 7, 7, 7, 7, 7, 7, 7, 7, 7, 7, 7, 7, 7, 7, 7, 7, 7, 7, 7, 7, 7, 7, 7, 7, 7, 7, 8, 8, 8, 8, 8, 8, 8, 8, 8, 8, 8, 8, 8, 8, 8, 8, 8, 8, 8, 8, 8, 8, 8, 8, 8, 8, 8, 8, 8, 8, 8, 8, 8, 8, 8, 8, 8, 8, 8, 8, 8, 8, 8, 8, 8, 8, 8, 8, 8, 8, 8, 8, 8, 8, 8, 8, 8, 8, 8, 8, 8, 8, 8, 8, 8, 8, 8, 8, 8, 8, 8, 8, 8, 8, 8, 8, 8, 8, 8, 8, 8, 8, 8, 8, 8, 8, 8, 8, 8, 8, 8, 8, 8, 8, 8, 8, 8, 8, 8, 8, 8, 8, 8, 8, 8, 8, 8, 8, 8, 8, 8, 8, 8, 8, 8, 8, 8, 8, 8, 8, 8, 8, 8, 8, 8, 8, 8, 8]⟩ : ByteArray) (ji28)
            replace p31 := eq_true p31
            replace q31 := eq_true q31
            go_enter Try.func143, Try.ntmps143
            go_wp2
            go_ret
            exact ⟨by first | rfl | (simp; done) | (simp only [← hji28] <;> (first | rfl | simp)) | (simp [*]; done), by repeat (first | exact Drawn0.refl _ | apply Drawn0.step)⟩
          · rw [if_neg c30] at H
            exact absurd H (by simp)
        · rw [if_neg c29] at H
          exact absurd H (by simp)
    · rw [if_neg c22] at H
      have c22b0 : decide (65536 ≤ a0) = false := decide_eq_false c22
      clear c22
      by_cases c32 : a0 ≥ 256
      · rw [if_pos c32] at H
        have c32b0 : decide (256 ≤ a0) = true := decide_eq_true c32
        clear c32
        obtain ⟨ji33, hji33⟩ : ∃ j_ : Int, ((a0 / 256) % 256) = j_ := ⟨_, rfl⟩
        replace H : (if 0 ≤ (ji33) then (if (ji33) < 256 then (some (wrap64 ((0 + 8) + (wrap64 (bt (⟨#[0, 1, 2, 2, 3, 3, 3, 3, 4, 4, 4, 4, 4, 4, 4, 4, 5, 5, 5, 5, 5, 5, 5, 5, 5, 5, 5, 5, 5, 5, 5, 5, 6, 6, 6, 6, 6, 6, 6, 6, 6, 6, 6, 6, 6, 6, 6, 6, 6, 6, 6, 6, 6, 6, 6, 6, 6, 6, 6, 6, 6, 6, 6, 6, 7, 7, 7, 7, 7, 7, 7, 7, 7, 7, 7, 7, 7, 7, 7, 7, 7, 7, 7, 7, 7, 7, 7, 7, 7, 7, 7, 7, 7, 7, 7, 7, 7, 7, 7, 7, 7, 7, 7, 7, 7, 7, 7, 7, 7, 7, 7, 7, 7, 7, 7, 7, 7, 7, 7, 7, 7, 7, 7, 7, 7, 7, 7, 7, 8, 8, 8, 8, 8, 8, 8, 8, 8, 8, 8, 8, 8, 8, 8, 8, 8, 8, 8, 8, 8, 8, 8, 8, 8, 8, 8, 8, 8, 8, 8, 8, 8, 8, 8, 8, 8, 8, 8, 8, 8, 8, 8, 8, 8, 8, 8, 8, 8, 8, 8, 8, 8, 8, 8, 8, 8, 8, 8, 8, 8, 8, 8, 8, 8, 8, 8, 8, 8, 8, 8, 8, 8, 8, 8, 8, 8, 8, 8, 8, 8, 8, 8, 8, 8, 8, 8, 8, 8, 8, 8, 8, 8, 8, 8, 8, 8, 8, 8, 8, 8, 8, 8, 8, 8, 8, 8, 8, 8, 8, 8, 8, 8, 8, 8, 8, 8, 8, 8, 8, 8, 8, 8, 8, 8, 8, 8, 8]⟩ : ByteArray) (ji33)))))) else (none)) else (none)) = some r := by first | (rw [hji33] at H; exact H) | (simp only [hji33] at H ⊢; exact H)
        by_cases c34 : 0 ≤ (ji33)
        · rw [if_pos c34] at H
          have c34b0 : decide (0 ≤ (ji33)) = true := decide_eq_true c34
          clear c34
          by_cases c35 : (ji33) < 256
          · rw [if_pos c35] at H
            have c35b0 : decide ((ji33) < 256) = true := decide_eq_true c35
            clear c35
            obtain rfl := Option.some.inj H
            have p36 : 0 ≤ ((ji33) : Int) := of_decide_eq_true (by first | (with_reducible assumption) | assumption)
            have q36 : (ji33) < (256 : Int) := of_decide_eq_true (by first | (with_reducible assumption) | assumption)
            have hx36 := bt_at (⟨#[0, 1, 2, 2, 3, 3, 3, 3, 4, 4, 4, 4, 4, 4, 4, 4, 5, 5, 5, 5, 5, 5, 5, 5, 5, 5, 5, 5, 5, 5, 5, 5, 6, 6, 6, 6, 6, 6, 6, 6, 6, 6, 6, 6, 6, 6, 6, 6, 6, 6, 6, 6, 6, 6, 6, 6, 6, 6, 6, 6, 6, 6, 6, 6, 7, 7, 7, 7, 7, 7, 7, 7, 7, 7, 7, 7, 7, 7, 7, 7, 7, 7, 7, 7, 7, 7, 7, 7, 7, 7, 7, 7, 7, 7, 7, 7, 7, 7, 7, 7, 7, 7, 7, 7, 7, 7, 7, 7, 7, 7, 7, 7, 7, 7, 7, 7, 7, 7, 7, 7, 7, 7, 7, 7, 7, 7, 7, 7, 8, 8, 8, 8, 8, 8, 8, 8, 8, 8, 8, 8, 8, 8, 8, 8, 8, 8, 8, 8, 8, 8, 8, 8, 8, 8, 8, 8, 8, 8, 8, 8, 8, 8, 8, 8, 8, 8, 8, 8, 8, 8, 8, 8, 8, 8, 8, 8, 8, 8, 8, 8, 8, 8, 8, 8, 8, 8, 8, 8, 8, 8, 8, 8, 8, 8, 8, 8, 8, 8, 8, 8, 8, 8, 8, 8, 8, 8, 8, 8, 8, 8, 8, 8, 8, 8, 8, 8, 8, 8, 8, 8, 8, 8, 8, 8, 8, 8, 8, 8, 8, 8, 8, 8, 8, 8, 8, 8, 8, 8, 8, 8, 8, 8, 8, 8, 8, 8, 8, 8, 8, 8, 8, 8, 8, 8, 8, 8]⟩ : ByteArray) (ji33)
            replace p36 := eq_true p36
            replace q36 := eq_true q36
            go_enter Try.func143, Try.ntmps143
            go_wp2
            go_ret
            exact ⟨by first | rfl | (simp; done) | (simp only [← hji33] <;> (first | rfl | simp)) | (simp [*]; done), by repeat (first | exact Drawn0.refl _ | apply Drawn0.step)⟩
          · rw [if_neg c35] at H
            exact absurd H (by simp)
        · rw [if_neg c34] at H
          exact absurd H (by simp)
      · rw [if_neg c32] at H
        have c32b0 : decide (256 ≤ a0) = false := decide_eq_false c32
        clear c32
        obtain ⟨ji37, hji37⟩ : ∃ j_ : Int, ((a0) % 256) = j_ := ⟨_, rfl⟩
        replace H : (if 0 ≤ (ji37) then (if (ji37) < 256 then (some (wrap64 (0 + (wrap64 (bt (⟨#[0, 1, 2, 2, 3, 3, 3, 3, 4, 4, 4, 4, 4, 4, 4, 4, 5, 5, 5, 5, 5, 5, 5, 5, 5, 5, 5, 5, 5, 5, 5, 5, 6, 6, 6, 6, 6, 6, 6, 6, 6, 6, 6, 6, 6, 6, 6, 6, 6, 6, 6, 6, 6, 6, 6, 6, 6, 6, 6, 6, 6, 6, 6, 6, 7, 7, 7, 7, 7, 7, 7, 7, 7, 7, 7, 7, 7, 7, 7, 7, 7, 7, 7, 7, 7, 7, 7, 7, 7, 7, 7, 7, 7, 7, 7, 7, 7, 7, 7, 7, 7, 7, 7, 7, 7, 7, 7, 7, 7, 7, 7, 7, 7, 7, 7, 7, 7, 7, 7, 7, 7, 7, 7, 7, 7, 7, 7, 7, 8, 8, 8, 8, 8, 8, 8, 8, 8, 8, 8, 8, 8, 8, 8, 8, 8, 8, 8, 8, 8, 8, 8, 8, 8, 8, 8, 8, 8, 8, 8, 8, 8, 8, 8, 8, 8, 8, 8, 8, 8, 8, 8, 8, 8, 8, 8, 8, 8, 8, 8, 8, 8, 8, 8, 8, 8, 8, 8, 8, 8, 8, 8, 8, 8, 8, 8, 8, 8, 8, 8, 8, 8, 8, 8, 8, 8, 8, 8, 8, 8, 8, 8, 8, 8, 8, 8, 8, 8, 8, 8, 8, 8, 8, 8, 8, 8, 8, 8, 8, 8, 8, 8, 8, 8, 8, 8, 8, 8, 8, 8, 8, 8, 8, 8, 8, 8, 8, 8, 8, 8, 8, 8, 8, 8, 8, 8, 8]⟩ : ByteArray) (ji37)))))) else (none)) else (none)) = some r := by first | (rw [hji37] at H; exact H) | (simp only [hji37] at H ⊢; exact H)
        by_cases c38 : 0 ≤ (ji37)
        · rw [if_pos c38] at H
          have c38b0 : decide (0 ≤ (ji37)) = true := decide_eq_true c38
          clear c38
          by_cases c39 : (ji37) < 256
          · rw [if_pos c39] at H
            have c39b0 : decide ((ji37) < 256) = true := decide_eq_true c39
            clear c39
            obtain rfl := Option.some.inj H
            have p40 : 0 ≤ ((ji37) : Int) := of_decide_eq_true (by first | (with_reducible assumption) | assumption)
            have q40 : (ji37) < (256 : Int) := of_decide_eq_true (by first | (with_reducible assumption) | assumption)
            have hx40 := bt_at (⟨#[0, 1, 2, 2, 3, 3, 3, 3, 4, 4, 4, 4, 4, 4, 4, 4, 5, 5, 5, 5, 5, 5, 5, 5, 5, 5, 5, 5, 5, 5, 5, 5, 6, 6, 6, 6, 6, 6, 6, 6, 6, 6, 6, 6, 6, 6, 6, 6, 6, 6, 6, 6, 6, 6, 6, 6, 6, 6, 6, 6, 6, 6, 6, 6, 7, 7, 7, 7, 7, 7, 7, 7, 7, 7, 7, 7, 7, 7, 7, 7, 7, 7, 7, 7, 7, 7, 7, 7, 7, 7, 7, 7, 7, 7, 7, 7, 7, 7, 7, 7, 7, 7, 7, 7, 7, 7, 7, 7, 7, 7, 7, 7, 7, 7, 7, 7, 7, 7, 7, 7, 7, 7, 7, 7, 7, 7, 7, 7, 8, 8, 8, 8, 8, 8, 8, 8, 8, 8, 8, 8, 8, 8, 8, 8, 8, 8, 8, 8, 8, 8, 8, 8, 8, 8, 8, 8, 8, 8, 8, 8, 8, 8, 8, 8, 8, 8, 8, 8, 8, 8, 8, 8, 8, 8, 8, 8, 8, 8, 8, 8, 8, 8, 8, 8, 8, 8, 8, 8, 8, 8, 8, 8, 8, 8, 8, 8, 8, 8, 8, 8, 8, 8, 8, 8, 8, 8, 8, 8, 8, 8, 8, 8, 8, 8, 8, 8, 8, 8, 8, 8, 8, 8, 8, 8, 8, 8, 8, 8, 8, 8, 8, 8, 8, 8, 8, 8, 8, 8, 8, 8, 8, 8, 8, 8, 8, 8, 8, 8, 8, 8, 8, 8, 8, 8, 8, 8]⟩ : ByteArray) (ji37)
            replace p40 := eq_true p40
            replace q40 := eq_true q40
            go_enter Try.func143, Try.ntmps143
            go_wp2
            go_ret
            exact ⟨by first | rfl | (simp; done) | (simp only [← hji37] <;> (first | rfl | simp)) | (simp [*]; done), by repeat (first | exact Drawn0.refl _ | apply Drawn0.step)⟩
          · rw [if_neg c39] at H
            exact absurd H (by simp)
        · rw [if_neg c38] at H
          exact absurd H (by simp)

/-! ### bits_Len: function 133 -/
def bits_Len.f (a0 : Int) : Option (Int) := (bits_Len64.f a0).bind fun t101 => (some t101)
set_option maxHeartbeats 8000000 in
set_option maxRecDepth 100000 in
theorem bits_Len.calls (a0 : Int) (r : Int) (w : World) (h : bits_Len.f a0 = some r) :
    Calls Try.prog 133 #[.int .u64 a0] w fun e w' => e = .returned (.int .i64 r) ∧ Drawn0 w w' := by
  have H : ((bits_Len64.f a0).bind fun t101 => (some t101)) = some r := h
  clear h
  replace H := Option.bind_eq_some_iff.mp H
  obtain ⟨t101, A20, H⟩ := H
  replace H : (some t101) = some r := H
  have A2 := Aside0.mk A20
  clear A20
  obtain rfl := Option.some.inj H
  go_enter Try.func133, Try.ntmps133
  go_wp2_with (first | ((with_reducible refine gate_callee (f := 143) rfl ?_); refine goesL_ (some 7) rfl rfl Try.func143 (by kernel_rfl) rfl #[.int .u64 a0] rfl (by (try simp only [List.map_toArray, List.map_cons, List.map_nil]); first | done | rfl | (simp only [List.length_drop, List.length_take]; rfl)) ?_; (with_reducible refine (bits_Len64.calls a0 t101 _ A2.out).mono ?_); rintro e w' ⟨rfl, ⟨nd, rfl⟩⟩; refine ⟨_, rfl, ?_⟩))
  go_ret
  exact ⟨by first | rfl | (simp; done) | (simp [*]; done), by repeat (first | exact Drawn0.refl _ | apply Drawn0.step)⟩

end Go.Proofs.Ytnajmemcdipknaa.PB
namespace Go.Proofs.Ytnajmemcdipknaa.PK
open Go.RowKit Go.Proofs.YtnajmemcdipknaaW.PrintWords Go.Proofs.YtnajmemcdipknaaW.PrintLast Go.Proofs.YtnajmemcdipknaaW.PrintMore
set_option linter.unusedVariables false
set_option linter.unusedSimpArgs false
set_option maxRecDepth 100000

def nb (m : Int) : Nat := if m = 0 then 0 else if m < 256 then 1 else if m < 65536 then 2 else if m < 16777216 then 3 else if m < 4294967296 then 4 else if m < 1099511627776 then 5 else if m < 281474976710656 then 6 else 7
theorem nb_le (m : Int) : nb m ≤ 7 := by unfold nb; repeat' split
                                         all_goals omega
def beL : Nat → Int → List Int
  | 0, _ => []
  | k + 1, m => (m / 256 ^ k) % 256 :: beL k m
theorem beL_length (k : Nat) (m : Int) : (beL k m).length = k := by
  induction k with
  | zero => rfl
  | succ k ih => simp [beL, ih]
theorem beL_range (k : Nat) (m : Int) : ∀ x ∈ beL k m, 0 ≤ x ∧ x ≤ 255 := by
  induction k with
  | zero => simp [beL]
  | succ k ih =>
    intro x hx
    simp only [beL, List.mem_cons] at hx
    rcases hx with rfl | hx
    · omega
    · exact ih x hx
/-- The bytes of a number; none, where it has none. -/
def putL (n : Int) : List Int :=
  if n < -9007199254740992 ∨ 9007199254740992 < n then [] else
    if n < 0 then (128 + (nb (-n) : Int)) :: beL (nb (-n)) (-n) else (nb n : Int) :: beL (nb n) n
def octets_Put.f (n : Int) : Option ByteArray := some (strOfNums (putL n))

def tabL : ByteArray := ⟨#[0, 1, 2, 2, 3, 3, 3, 3, 4, 4, 4, 4, 4, 4, 4, 4, 5, 5, 5, 5, 5, 5, 5, 5, 5, 5, 5, 5, 5, 5, 5, 5, 6, 6, 6, 6, 6, 6, 6, 6, 6, 6, 6, 6, 6, 6, 6, 6, 6, 6, 6, 6, 6, 6, 6, 6, 6, 6, 6, 6, 6, 6, 6, 6, 7, 7, 7, 7, 7, 7, 7, 7, 7, 7, 7, 7, 7, 7, 7, 7, 7, 7, 7, 7, 7, 7, 7, 7, 7, 7, 7, 7, 7, 7, 7, 7, 7, 7, 7, 7, 7, 7, 7, 7, 7, 7, 7, 7, 7, 7, 7, 7, 7, 7, 7, 7, 7, 7, 7, 7, 7, 7, 7, 7, 7, 7, 7, 7, 8, 8, 8, 8, 8, 8, 8, 8, 8, 8, 8, 8, 8, 8, 8, 8, 8, 8, 8, 8, 8, 8, 8, 8, 8, 8, 8, 8, 8, 8, 8, 8, 8, 8, 8, 8, 8, 8, 8, 8, 8, 8, 8, 8, 8, 8, 8, 8, 8, 8, 8, 8, 8, 8, 8, 8, 8, 8, 8, 8, 8, 8, 8, 8, 8, 8, 8, 8, 8, 8, 8, 8, 8, 8, 8, 8, 8, 8, 8, 8, 8, 8, 8, 8, 8, 8, 8, 8, 8, 8, 8, 8, 8, 8, 8, 8, 8, 8, 8, 8, 8, 8, 8, 8, 8, 8, 8, 8, 8, 8, 8, 8, 8, 8, 8, 8, 8, 8, 8, 8, 8, 8, 8, 8, 8, 8, 8, 8]⟩
def lenW (a0 : Int) : Option Int := if a0 ≥ 4294967296 then (if (a0 / 4294967296) ≥ 65536 then (if ((a0 / 4294967296) / 65536) ≥ 256 then (if 0 ≤ ((((a0 / 4294967296) / 65536) / 256) % 256) then (if ((((a0 / 4294967296) / 65536) / 256) % 256) < 256 then (some (wrap64 (((32 + 16) + 8) + (wrap64 (bt tabL ((((a0 / 4294967296) / 65536) / 256) % 256)))))) else (none)) else (none)) else (if 0 ≤ (((a0 / 4294967296) / 65536) % 256) then (if (((a0 / 4294967296) / 65536) % 256) < 256 then (some (wrap64 ((32 + 16) + (wrap64 (bt tabL (((a0 / 4294967296) / 65536) % 256)))))) else (none)) else (none))) else (if (a0 / 4294967296) ≥ 256 then (if 0 ≤ (((a0 / 4294967296) / 256) % 256) then (if (((a0 / 4294967296) / 256) % 256) < 256 then (some (wrap64 ((32 + 8) + (wrap64 (bt tabL (((a0 / 4294967296) / 256) % 256)))))) else (none)) else (none)) else (if 0 ≤ ((a0 / 4294967296) % 256) then (if ((a0 / 4294967296) % 256) < 256 then (some (wrap64 (32 + (wrap64 (bt tabL ((a0 / 4294967296) % 256)))))) else (none)) else (none)))) else (if a0 ≥ 65536 then (if (a0 / 65536) ≥ 256 then (if 0 ≤ (((a0 / 65536) / 256) % 256) then (if (((a0 / 65536) / 256) % 256) < 256 then (some (wrap64 (((0 + 16) + 8) + (wrap64 (bt tabL (((a0 / 65536) / 256) % 256)))))) else (none)) else (none)) else (if 0 ≤ ((a0 / 65536) % 256) then (if ((a0 / 65536) % 256) < 256 then (some (wrap64 ((0 + 16) + (wrap64 (bt tabL ((a0 / 65536) % 256)))))) else (none)) else (none))) else (if a0 ≥ 256 then (if 0 ≤ ((a0 / 256) % 256) then (if ((a0 / 256) % 256) < 256 then (some (wrap64 ((0 + 8) + (wrap64 (bt tabL ((a0 / 256) % 256)))))) else (none)) else (none)) else (if 0 ≤ ((a0) % 256) then (if ((a0) % 256) < 256 then (some (wrap64 (0 + (wrap64 (bt tabL ((a0) % 256)))))) else (none)) else (none))))
theorem lenW_eq (m : Int) : PB.bits_Len64.f m = lenW m := rfl
theorem tabL_at (i : Int) (h0 : 0 ≤ i) (h1 : i < 256) : (i = 0 → bt tabL i = 0) ∧ (i ≠ 0 → 1 ≤ bt tabL i) ∧ bt tabL i ≤ 8 := by
  have h : ∀ x : Fin 256, ((((x.val : Nat) : Int) = 0 → bt tabL ((x.val : Nat) : Int) = 0) ∧ (((x.val : Nat) : Int) ≠ 0 → 1 ≤ bt tabL ((x.val : Nat) : Int)) ∧ bt tabL ((x.val : Nat) : Int) ≤ 8) := by decide +kernel
  have := h ⟨i.toNat, by omega⟩
  simp only [] at this
  rwa [Int.toNat_of_nonneg h0] at this
theorem len_some (m : Int) (h0 : 0 ≤ m) (h1 : m ≤ 9007199254740992) : ∃ r, PB.bits_Len.f m = some r ∧ 0 ≤ r ∧ r ≤ 64 ∧ (r + 7) / 8 = (nb m : Int) := by
  have e0 : PB.bits_Len.f m = lenW m := by
    unfold PB.bits_Len.f
    rw [lenW_eq]
    cases lenW m <;> rfl
  rw [e0]
  unfold lenW
  have w : ∀ x : Int, 0 ≤ x → x ≤ 1000 → wrap64 x = x := fun x a b => by unfold wrap64; omega
  by_cases c1 : m ≥ 4294967296
  · rw [if_pos c1]
    by_cases c2 : m / 4294967296 ≥ 65536
    · rw [if_pos c2]
      by_cases c3 : m / 4294967296 / 65536 ≥ 256
      · omega
      · rw [if_neg c3, if_pos (by omega), if_pos (by omega)]
        have t := tabL_at (m / 4294967296 / 65536 % 256) (by omega) (by omega)
        rw [w (bt tabL _) (by omega) (by omega), w _ (by omega) (by omega)]
        refine ⟨_, rfl, by omega, by omega, ?_⟩
        unfold nb
        repeat' split
        all_goals omega
    · rw [if_neg c2]
      by_cases c3 : m / 4294967296 ≥ 256
      · rw [if_pos c3, if_pos (by omega), if_pos (by omega)]
        have t := tabL_at (m / 4294967296 / 256 % 256) (by omega) (by omega)
        rw [w (bt tabL _) (by omega) (by omega), w _ (by omega) (by omega)]
        refine ⟨_, rfl, by omega, by omega, ?_⟩
        unfold nb
        repeat' split
        all_goals omega
      · rw [if_neg c3, if_pos (by omega), if_pos (by omega)]
        have t := tabL_at (m / 4294967296 % 256) (by omega) (by omega)
        rw [w (bt tabL _) (by omega) (by omega), w _ (by omega) (by omega)]
        refine ⟨_, rfl, by omega, by omega, ?_⟩
        unfold nb
        repeat' split
        all_goals omega
  · rw [if_neg c1]
    by_cases c2 : m ≥ 65536
    · rw [if_pos c2]
      by_cases c3 : m / 65536 ≥ 256
      · rw [if_pos c3, if_pos (by omega), if_pos (by omega)]
        have t := tabL_at (m / 65536 / 256 % 256) (by omega) (by omega)
        rw [w (bt tabL _) (by omega) (by omega), w _ (by omega) (by omega)]
        refine ⟨_, rfl, by omega, by omega, ?_⟩
        unfold nb
        repeat' split
        all_goals omega
      · rw [if_neg c3, if_pos (by omega), if_pos (by omega)]
        have t := tabL_at (m / 65536 % 256) (by omega) (by omega)
        rw [w (bt tabL _) (by omega) (by omega), w _ (by omega) (by omega)]
        refine ⟨_, rfl, by omega, by omega, ?_⟩
        unfold nb
        repeat' split
        all_goals omega
    · rw [if_neg c2]
      by_cases c3 : m ≥ 256
      · rw [if_pos c3, if_pos (by omega), if_pos (by omega)]
        have t := tabL_at (m / 256 % 256) (by omega) (by omega)
        rw [w (bt tabL _) (by omega) (by omega), w _ (by omega) (by omega)]
        refine ⟨_, rfl, by omega, by omega, ?_⟩
        unfold nb
        repeat' split
        all_goals omega
      · rw [if_neg c3, if_pos (by omega), if_pos (by omega)]
        have t := tabL_at (m % 256) (by omega) (by omega)
        rw [w (bt tabL _) (by omega) (by omega)]
        try rw [w _ (by omega) (by omega)]
        refine ⟨_, rfl, by omega, by omega, ?_⟩
        unfold nb
        repeat' split
        all_goals omega
end Go.Proofs.Ytnajmemcdipknaa.PK
namespace Go.Proofs.Ytnajmemcdipknaa.PK
open Go.RowKit Go.Proofs.YtnajmemcdipknaaW.PrintWords Go.Proofs.YtnajmemcdipknaaW.PrintLast Go.Proofs.YtnajmemcdipknaaW.PrintMore
set_option linter.unusedVariables false
set_option linter.unusedSimpArgs false
set_option maxRecDepth 100000
theorem info5q : (Try.prog.info? 5).map (fun i => (i.zero, i.size, i.bytes)) = some (some (.int .u8 0), 1, 1) := by kernel_rfl

theorem or_u8 (K : Nat) (h : K ≤ 7) : Go.bits .or .u8 0 (K : Int) = (K : Int) ∧ Go.bits .or .u8 128 (K : Int) = 128 + (K : Int) := by
  have h8 : ∀ x : Fin 8, Go.bits .or .u8 0 ((x.val : Nat) : Int) = ((x.val : Nat) : Int) ∧ Go.bits .or .u8 128 ((x.val : Nat) : Int) = 128 + ((x.val : Nat) : Int) := by decide +kernel
  exact h8 ⟨K, by omega⟩
theorem beL_step (j : Nat) (m : Int) (L full : List Int) (h : L ++ beL (j + 1) m = full) : (L ++ [(m / 256 ^ j) % 256]) ++ beL j m = full := by
  rw [← h]; simp [beL]
theorem shift_is (m i : Int) (h0 : 0 ≤ i) : m / 2 ^ (8 * i).toNat = m / 256 ^ i.toNat := by
  obtain ⟨j, rfl⟩ := Int.eq_ofNat_of_zero_le h0
  have : (8 * (j : Int)).toNat = 8 * j := by omega
  rw [this, Int.toNat_natCast, Int.pow_mul]
  rfl
/-- What the loop of Put carries. -/
def PutRel (w : World) (m : Int) (K : Nat) (full : List Int) (v : Value) (i : Int) (wr : World) : Prop :=
  ∃ L : List Int, L ++ beL (i + 1).toNat m = full ∧ wr.ownsRow w.heap.size 5 1 v L.length (nums .u8 L) ∧ Below w.heap.size w wr ∧ L.length ≤ 8
set_option maxHeartbeats 1600000 in
/-- The walk at a number that has bytes. -/
theorem put_core (a0 m sg : Int) (w : World) (h0 : 0 ≤ m) (h1 : m ≤ 9007199254740992) (hc : (m = a0 ∧ sg = 0) ∨ (a0 = -m ∧ sg = 128 ∧ 0 < m)) :
    Calls Try.prog 90 #[.int .i64 a0] w fun e w' => e = .returned (.string (strOfNums ((sg + (nb m : Int)) :: beL (nb m) m))) ∧ Below w.heap.size w w' := by
  obtain ⟨r, hr, hr0, hr1, hrk⟩ := len_some m h0 h1
  have HR := Aside0.mk hr
  clear hr
  have hk7 := nb_le m
  obtain ⟨K, hK⟩ : ∃ K, K = nb m := ⟨_, rfl⟩
  rw [← hK] at hrk hk7 ⊢
  clear hK
  obtain ⟨hor0, hor1⟩ := or_u8 K hk7
  obtain ⟨i0, hi, hz0, hz1, hz2⟩ := info_parts info5q
  rcases hc with ⟨rfl, rfl⟩ | ⟨rfl, rfl, hpos⟩
  all_goals
    go_enter Try.func90, Try.ntmps90
    go_wp2_with (first
      | (go_at_call 133; refine (PB.bits_Len.calls m r _ HR.out).mono ?_; rintro e w' ⟨rfl, ⟨nd, rfl⟩⟩)
      | (at_make; refine wpList_make_own _ rfl _ _ 62 rfl w.heap.size 5 i0 (.int .u8 0) 1 Try.underlying62 hi hz0 hz1 .i64 .i64 _ (K + 1) rfl rfl (by omega) (by rw [hz2]; omega) (by unfold maxLen; omega) (by simp) ?_; intro w1 hown hg; have HB1 := Aside0.mk ((pw_below_drewN (Below.refl w.heap.size w) nd).grown hg (Nat.le_refl _) (fun _ h => by cases h)); have HO1 := Aside0.mk hown; clear hown hg)
      | (at_builtin; refine print_append_num (w0 := w) w.heap.size rfl (.tmp 25) (.tmp 30) 62 5 .u8 1 rfl Try.underlying62 info5q (by decide) _ [] _ rfl rfl HO1.out HB1.out HB1.out.size (by simp) ?_; intro v2 w2 ho2 hb2 _ _; have HB2 := Aside0.mk hb2; have HO2 := Aside0.mk ho2; clear ho2 hb2))
    go_loopw [5, 6] (fun v i wr => ∃ i' : Int, -1 ≤ i' ∧ i' < K ∧ i = .int .i64 i' ∧ Aside0 (PutRel w m K _ v i' wr)) (fun _ i _ => (intOf i + 1).toNat)
    case atStart => exact ⟨(K : Int) - 1, by omega, by omega, rfl, ⟨⟨_, by rw [show ((K : Int) - 1 + 1).toNat = K from by omega], HO2.out, HB2.out, by simp⟩⟩⟩
    case round =>
      obtain ⟨i', hi0, hiK, rfl, hrel⟩ := hrel
      by_cases hlt : 0 ≤ i'
      · obtain ⟨L, hL, hown, hbel, hlen⟩ := hrel.out
        have HO := Aside0.mk hown
        have HB := Aside0.mk hbel
        have HL := Aside0.mk hL
        have HN := Aside0.mk hlen
        clear hown hbel hL hrel hlen
        obtain ⟨D, hD⟩ : ∃ D, D = m / 256 ^ i'.toNat := ⟨_, rfl⟩
        have hsh : m / 2 ^ (8 * i').toNat = D := by rw [hD]; exact shift_is m i' hlt
        have HD := Aside0.mk hD
        clear hD
        go_wp2_with (first
          | (at_builtin; refine print_append_num (w0 := w) w.heap.size rfl (.tmp 38) (.tmp 44) 62 5 .u8 1 rfl Try.underlying62 info5q (by decide) _ L _ rfl rfl HO.out HB.out HB.out.size (by have := HN.out; omega) ?_; intro v3 w3 ho3 hb3 _ _; have HB3 := Aside0.mk hb3; have HO3 := Aside0.mk ho3; clear ho3 hb3))
        go_roundw
        case rel => exact ⟨i' - 1, by omega, by omega, by go_num, ⟨⟨L ++ [D % 256], by rw [HD.out]; have e := HL.out; rw [show (i' + 1).toNat = i'.toNat + 1 from by omega] at e; rw [show (i' - 1 + 1).toNat = i'.toNat from by omega]; exact beL_step _ _ _ _ e, HO3.out, HB3.out, by have e := congrArg List.length HL.out; simp [beL_length] at e; simp; omega⟩⟩⟩
        case measure => simp [intOf]; omega
      · obtain ⟨L, hL, hown, hbel, hlen⟩ := hrel.out
        rw [show (i' + 1).toNat = 0 from by omega] at hL
        simp only [beL, List.append_nil] at hL
        have hcv := own_string (P := Try.prog) Try.underlying62 Try.underlying5 Try.underlying9 hown
        have HB := Aside0.mk hbel
        have HL := Aside0.mk hL
        clear hown hbel hL hrel hlen
        go_wp2
        go_ret
        exact ⟨by rw [HL.out]; first | rfl | simp, HB.out⟩
set_option maxHeartbeats 800000 in
theorem octets_Put.calls (a0 : Int) (r : ByteArray) (w : World) (h : octets_Put.f a0 = some r) :
    Calls Try.prog 90 #[.int .i64 a0] w fun e w' => e = .returned (.string r) ∧ Below w.heap.size w w' := by
  have e : strOfNums (putL a0) = r := Option.some.inj h
  subst e
  clear h
  by_cases hb : a0 < -9007199254740992 ∨ 9007199254740992 < a0
  · have e : strOfNums (putL a0) = ⟨#[]⟩ := by unfold putL; rw [if_pos hb]; rfl
    rw [e]
    clear e
    rcases hb with hb | hb
    all_goals
      go_enter Try.func90, Try.ntmps90
      go_wp2
      go_ret
      exact ⟨rfl, Below.refl _ _⟩
  · by_cases hn : a0 < 0
    · have := put_core a0 (-a0) 128 w (by omega) (by omega) (.inr ⟨by omega, rfl, by omega⟩)
      have e : putL a0 = (128 + (nb (-a0) : Int)) :: beL (nb (-a0)) (-a0) := by unfold putL; rw [if_neg hb, if_pos hn]
      rw [e]
      exact this
    · have := put_core a0 a0 0 w (by omega) (by omega) (.inl ⟨rfl, rfl⟩)
      have e : putL a0 = (0 + (nb a0 : Int)) :: beL (nb a0) a0 := by unfold putL; rw [if_neg hb, if_neg hn]; simp
      rw [e]
      exact this
end Go.Proofs.Ytnajmemcdipknaa.PK
namespace Go.Proofs.Ytnajmemcdipknaa.PK
open Go.RowKit Go.Proofs.YtnajmemcdipknaaW.PrintWords Go.Proofs.YtnajmemcdipknaaW.PrintLast Go.Proofs.YtnajmemcdipknaaW.PrintMore
set_option linter.unusedVariables false
set_option linter.unusedSimpArgs false
set_option maxRecDepth 100000
theorem bytesOf_len (s : ByteArray) : (bytesOf s).length = s.size := bytesOf_length s
theorem bytesOf_range (s : ByteArray) : ∀ x ∈ bytesOf s, 0 ≤ x ∧ x ≤ 255 := by
  intro x hx
  simp only [bytesOf, List.mem_map] at hx
  obtain ⟨b, _, rfl⟩ := hx
  have := b.toNat_lt
  omega
theorem strOf_bytes (l : List Int) (h : ∀ x ∈ l, 0 ≤ x ∧ x ≤ 255) : bytesOf (strOfNums l) = l := by
  unfold bytesOf strOfNums
  simp only [List.map_map]
  have : ∀ x ∈ l, ((fun b : UInt8 => (b.toNat : Int)) ∘ fun n : Int => UInt8.ofNat n.toNat) x = x := by
    intro x hx
    have := h x hx
    simp only [Function.comp]
    rw [UInt8.toNat_ofNat']
    omega
  rw [List.map_congr_left this, List.map_id']
theorem str_of_bytes (s : ByteArray) : strOfNums (bytesOf s) = s := by
  apply ByteArray.ext
  unfold bytesOf strOfNums
  apply Array.toList_inj.mp
  simp only [List.map_map]
  have : ∀ x ∈ s.data.toList, ((fun n : Int => UInt8.ofNat n.toNat) ∘ fun b : UInt8 => (b.toNat : Int)) x = x := by
    intro x _
    simp
  rw [List.map_congr_left this, List.map_id']
theorem bytesOf_inj {a b : ByteArray} (h : bytesOf a = bytesOf b) : a = b := by
  rw [← str_of_bytes a, h, str_of_bytes]
theorem toList_iff (a b : ByteArray) : a.toList = b.toList ↔ a = b := by
  constructor
  · intro h
    rw [ByteArray.toList_eq, ByteArray.toList_eq] at h
    exact ByteArray.ext (Array.toList_inj.mp h)
  · rintro rfl; rfl
theorem toList_nil_iff (a : ByteArray) : a.toList = ([] : List UInt8) ↔ a.size = 0 := by
  rw [ByteArray.toList_eq]
  constructor
  · intro h
    have := congrArg List.length h
    simpa using this
  · intro h
    exact List.eq_nil_of_length_eq_zero (by simpa using h)
theorem bytesOf_append (a b : ByteArray) : bytesOf (a ++ b) = bytesOf a ++ bytesOf b := by
  unfold bytesOf
  rw [ByteArray.data_append, Array.toList_append, List.map_append]
theorem bytesOf_extract (s : ByteArray) (a b : Nat) : bytesOf (s.extract a b) = ((bytesOf s).take b).drop a := by
  unfold bytesOf
  rw [ByteArray.data_extract, Array.toList_extract, List.extract_eq_take_drop, List.map_take, List.map_drop]
  rw [List.drop_take]
theorem size_app (a b : ByteArray) : (a ++ b).size = a.size + b.size := ByteArray.size_append
theorem bt_eq (s : ByteArray) (i : Int) : bt s i = (bytesOf s).getD i.toNat 0 := (rd_bytesOf s i).symm
theorem bt_nat (s : ByteArray) (i : Nat) : bt s (i : Int) = (bytesOf s).getD i 0 := by rw [bt_eq, Int.toNat_natCast]
theorem bytes_take (s : ByteArray) (k : Nat) (h : k ≤ s.size) : (bytesOf s).take k = (List.range k).map fun (j : Nat) => bt s (j : Int) := by
  apply List.ext_getElem
  · simp [bytesOf_len]; omega
  · intro i h1 h2
    have hi : i < (bytesOf s).length := by simp at h1; omega
    simp only [List.getElem_take, List.getElem_map, List.getElem_range, bt_nat]
    rw [List.getD_eq_getElem?_getD, List.getElem?_eq_getElem hi]
    rfl
end Go.Proofs.Ytnajmemcdipknaa.PK
