/- Small words that the printed texts and the walks by hand share. Condition: none.
octets.Get by hand: what it answers, as a plain function, and that the Go code answers it. Condition: none.
Plain words on strings as lists of numbers. No program in sight. Condition: none. -/
import Derived.Test.YtnajmemcdipknaaProg
import Derived.Test.YtnajmemcdipknaaWWords
import Derived.Test.YtnajmemcdipknaaWMore
import Derived.Test.YtnajmemcdipknaaWAt
import Derived.Test.YtnajmemcdipknaaWApart
import Derived.Test.YtnajmemcdipknaaWKept
import Derived.WalkKit
import Derived.BigQuiet
import Derived.Deep.QuietTactic
namespace Go.Proofs.Ytnajmemcdipknaa.PK
open Go.RowKit Go.Proofs.YtnajmemcdipknaaW.PrintWords Go.Proofs.YtnajmemcdipknaaW.PrintLast Go.Proofs.YtnajmemcdipknaaW.PrintMore
set_option linter.unusedVariables false
set_option linter.unusedSimpArgs false
set_option maxRecDepth 100000
theorem frozen_at {w w' : World} {m : Nat} {a : Addr} {b : Bool} (hq : w.drewN m = w') (h : w.frozen? a = b) : w'.frozen? a = b := by subst hq; exact h
theorem toList_length (s : ByteArray) : s.toList.length = s.size := by rw [ByteArray.toList_eq]; simp
theorem toList_nil (s : ByteArray) (h : s.size = 0) : s.toList = [] := List.eq_nil_of_length_eq_zero (by rw [toList_length, h])
end Go.Proofs.Ytnajmemcdipknaa.PK
namespace Go.Proofs.Ytnajmemcdipknaa.PK
open Go.RowKit Go.Proofs.YtnajmemcdipknaaW.PrintWords Go.Proofs.YtnajmemcdipknaaW.PrintLast Go.Proofs.YtnajmemcdipknaaW.PrintMore
set_option linter.unusedVariables false
set_option linter.unusedSimpArgs false
set_option maxRecDepth 100000

/-- The number that k bytes behind the first one tell, the highest first. -/
def valB (s : ByteArray) : Nat → Int
  | 0 => 0
  | k + 1 => valB s k * 256 + bt s ((k : Int) + 1)
theorem valB_range (s : ByteArray) (k : Nat) : 0 ≤ valB s k ∧ valB s k < 256 ^ k := by
  induction k with
  | zero => simp [valB]
  | succ k ih =>
    have hb := bt_range s ((k : Int) + 1)
    simp only [valB]
    have e : (256 : Int) ^ (k + 1) = 256 ^ k * 256 := Int.pow_succ ..
    rw [e]
    omega
theorem valB_lt (s : ByteArray) (k : Nat) (h : k ≤ 7) : 0 ≤ valB s k ∧ valB s k ≤ 72057594037927935 := by
  have := valB_range s k
  have h7 : ∀ j : Fin 8, (256 : Int) ^ j.val ≤ 72057594037927936 := by decide +kernel
  have := h7 ⟨k, by omega⟩
  simp only [] at this
  omega
theorem andNot128 (b : Int) (h0 : 0 ≤ b) (h1 : b ≤ 255) : Go.bits .andNot .u8 b 128 = b % 128 := by
  have h : ∀ x : Fin 256, Go.bits .andNot .u8 ((x.val : Nat) : Int) 128 = ((x.val : Nat) : Int) % 128 := by decide +kernel
  have := h ⟨b.toNat, by omega⟩
  simp only [] at this
  rwa [Int.toNat_of_nonneg h0] at this
theorem and128 (b : Int) (h0 : 0 ≤ b) (h1 : b ≤ 255) : Go.bits .and .u8 b 128 = if 128 ≤ b then 128 else 0 := by
  have h : ∀ x : Fin 256, Go.bits .and .u8 ((x.val : Nat) : Int) 128 = if 128 ≤ ((x.val : Nat) : Int) then 128 else 0 := by decide +kernel
  have := h ⟨b.toNat, by omega⟩
  simp only [] at this
  rwa [Int.toNat_of_nonneg h0] at this
theorem ofInt_i64 (a : Nat) (ha : a < 9223372036854775808) : (BitVec.ofInt 64 (a : Int)).toNat = a := by
  rw [BitVec.ofInt_natCast, BitVec.toNat_ofNat]; exact Nat.mod_eq_of_lt (by omega)
theorem i64_or_nat (a b : Nat) (ha : a < 9223372036854775808) (hb : b < 9223372036854775808) : Go.bits .or .i64 (a : Int) (b : Int) = ((a ||| b : Nat) : Int) := by
  have hx : a ||| b < 2 ^ 63 := Nat.or_lt_two_pow (by omega) (by omega)
  show IntKind.i64.wrap ((BitVec.ofInt 64 (a : Int) ||| BitVec.ofInt 64 (b : Int)).toNat : Int) = _
  rw [BitVec.toNat_or, ofInt_i64 a ha, ofInt_i64 b hb, IntKind.wrap_i64]
  omega
theorem or256 (n b : Int) (h0 : 0 ≤ n) (h1 : n ≤ 281474976710655) (h2 : 0 ≤ b) (h3 : b ≤ 255) : Go.bits .or .i64 (n * 256) b = n * 256 + b := by
  obtain ⟨m, rfl⟩ := Int.eq_ofNat_of_zero_le h0
  obtain ⟨c, rfl⟩ := Int.eq_ofNat_of_zero_le h2
  have h := i64_or_nat (m * 256) c (by omega) (by omega)
  have e : m * 256 ||| c = m * 256 + c := by
    have := Nat.two_pow_add_eq_or_of_lt (b := c) (i := 8) (by omega) m
    rw [Nat.mul_comm m 256]
    exact this.symm
  rw [e] at h
  simp only [Int.natCast_add, Int.natCast_mul, Int.cast_ofNat_Int] at h
  exact h
/-- What Get answers. -/
def getA (s : ByteArray) : Int × Int × Int :=
  if s.size = 0 then (0, 0, 3)
  else if bt s 0 % 128 > 7 ∨ (128 ≤ bt s 0 ∧ bt s 0 % 128 = 0) then (0, 0, 2)
  else if (s.size : Int) ≤ bt s 0 % 128 then (0, 0, 3)
  else if valB s (bt s 0 % 128).toNat > 9007199254740992 ∨ (bt s 0 % 128 > 0 ∧ bt s 1 = 0) then (0, 0, 2)
  else (if 128 ≤ bt s 0 then - valB s (bt s 0 % 128).toNat else valB s (bt s 0 % 128).toNat, bt s 0 % 128 + 1, 0)
def octets_Get.f (s : ByteArray) : Option (Int × Int × Int) := some (getA s)

/-- The walk, all of the answer given by variables. -/
def GetOk (s : ByteArray) (K : Nat) (below : Bool) (r : Int × Int × Int) : Prop :=
  r = if K > 7 ∨ (below = true ∧ K = 0) then (0, 0, 2) else if s.size ≤ K then (0, 0, 3)
    else if valB s K > 9007199254740992 ∨ (K > 0 ∧ bt s 1 = 0) then (0, 0, 2)
    else (if below = true then - valB s K else valB s K, (K : Int) + 1, 0)
theorem ret3_int {a b c a' b' c' : Int} (h : (a, b, c) = (a', b', c')) : Ending.returned (.tuple #[.int .i64 a', .int .i64 b', .int .i64 c']) = Ending.returned (.tuple #[.int .i64 a, .int .i64 b, .int .i64 c]) := by
  simp only [Prod.mk.injEq] at h
  obtain ⟨rfl, rfl, rfl⟩ := h
  rfl
set_option maxHeartbeats 1600000 in
theorem get_walk (a0 : ByteArray) (K : Nat) (below : Bool) (r1 r2 r3 : Int) (w : World) (hz : 0 < a0.size) (hK : K ≤ 127)
    (hAN : Go.bits .andNot .u8 (bt a0 0) 128 = (K : Int)) (hAD : (Go.bits .and .u8 (bt a0 0) 128 != 0) = below) (h : GetOk a0 K below (r1, r2, r3)) :
    Calls Try.prog 99 #[.string a0] w fun e w' => e = .returned (.tuple #[.int .i64 r1, .int .i64 r2, .int .i64 r3]) ∧ Drawn0 w w' := by
  have H := Aside0.mk h
  clear h
  have hl0 : (a0.toList == ([] : List UInt8)) = false := by
    rw [beq_eq_false_iff_ne]; intro h; have := toList_length a0; rw [h] at this; simp at this; omega
  have hx0 : ∀ h : 0 < a0.size, ((a0[0]'h).toNat : Int) = bt a0 0 := bt_at a0 0
  have q0 := eq_true hz
  have qi0 : (0 < (a0.size : Int)) = True := eq_true (by omega)
  by_cases h7 : 7 < K
  · have h7' : decide ((7 : Int) < (K : Int)) = true := by simp; omega
    go_enter Try.func99, Try.ntmps99
    go_wp2
    repeat (go_quiet (fail); try go_wp2)
    go_ret3
    refine ⟨ret3_int ?_, by repeat (first | exact Drawn0.refl _ | apply Drawn0.step)⟩
    have := H.out
    unfold GetOk at this
    rw [this, if_pos (.inl h7)]
  · have h7' : decide ((7 : Int) < (K : Int)) = false := by simp; omega
    by_cases hk0 : below = true ∧ K = 0
    · obtain ⟨rfl, rfl⟩ := hk0
      go_enter Try.func99, Try.ntmps99
      go_wp2
      repeat (go_quiet (fail); try go_wp2)
      go_ret3
      refine ⟨ret3_int ?_, by repeat (first | exact Drawn0.refl _ | apply Drawn0.step)⟩
      have := H.out
      unfold GetOk at this
      rw [this, if_pos (.inr ⟨rfl, rfl⟩)]
    · have H2 : Aside0 ((r1, r2, r3) = if a0.size ≤ K then (0, 0, 3) else if valB a0 K > 9007199254740992 ∨ (K > 0 ∧ bt a0 1 = 0) then (0, 0, 2) else (if below = true then - valB a0 K else valB a0 K, (K : Int) + 1, 0)) := by
        have := H.out
        unfold GetOk at this
        rw [if_neg (by rintro (h | h); omega; exact hk0 h)] at this
        exact ⟨this⟩
      clear H
      have hkb : below = true → (((K : Int) == 0) = false) := by
        intro hb; rw [beq_eq_false_iff_ne]; intro h; exact hk0 ⟨hb, by omega⟩
      clear hk0
      by_cases hs : a0.size ≤ K
      · have hs' : decide ((a0.size : Int) ≤ (K : Int)) = true := by simp; omega
        have hs2 : decide (a0.size ≤ K) = true := by simp; omega
        cases below
        all_goals
          try have hkb' := hkb rfl
          clear hkb
          go_enter Try.func99, Try.ntmps99
          go_wp2
          repeat (go_quiet (fail); try go_wp2)
          go_ret3
          refine ⟨ret3_int ?_, by repeat (first | exact Drawn0.refl _ | apply Drawn0.step)⟩
          rw [H2.out, if_pos hs]
      · have hs' : decide ((a0.size : Int) ≤ (K : Int)) = false := by simp; omega
        have hs2 : decide (a0.size ≤ K) = false := by simp; omega
        cases below
        all_goals
          try have hkb' := hkb rfl
          clear hkb
          go_enter Try.func99, Try.ntmps99
          go_wp2
          repeat (go_quiet (fail); try go_wp2)
          go_loop [7, 8] (fun n i => ∃ j : Nat, j ≤ K ∧ i = .int .i64 ((j : Int) + 1) ∧ n = .int .i64 (valB a0 j)) (fun _ i => K + 1 - (intOf i).toNat)
          case atStart => exact ⟨0, Nat.zero_le _, rfl, rfl⟩
          case round =>
            obtain ⟨j, hj, rfl, rfl⟩ := hrel
            by_cases hlt : j < K
            · have hv := valB_lt a0 j (by omega)
              have hv6 : valB a0 j ≤ 281474976710655 := by
                have := valB_range a0 j
                have h6 : ∀ j : Fin 7, (256 : Int) ^ j.val ≤ 281474976710656 := by decide +kernel
                have := h6 ⟨j, by omega⟩
                simp only [] at this
                omega
              have hbj := bt_range a0 ((j : Int) + 1)
              have hor : Go.bits .or .i64 (valB a0 j * 256) (bt a0 ((j : Int) + 1)) = valB a0 (j + 1) := or256 _ _ hv.1 hv6 hbj.1 hbj.2
              have hx : ∀ h : j + 1 < a0.size, ((a0[j + 1]'h).toNat : Int) = bt a0 ((j : Int) + 1) := fun h => by
                have := bt_at a0 ((j : Int) + 1) (by omega)
                rw [← this]
                rfl
              obtain ⟨hv0, hv1⟩ := hv
              obtain ⟨hb0, hb1⟩ := hbj
              go_wp2
              go_round
              case rel => exact ⟨j + 1, by omega, by go_num, rfl⟩
              case measure => simp [intOf]; omega
            · obtain rfl : K = j := by omega
              have hv := valB_lt a0 K (by omega)
              have hlt' : decide ((K : Int) + 1 ≤ (K : Int)) = false := by simp; omega
              by_cases hn : 9007199254740992 < valB a0 K
              · have hn' : decide (9007199254740992 < valB a0 K) = true := by simp; omega
                go_wp2
                go_ret3
                refine ⟨ret3_int ?_, by repeat (first | exact Drawn0.refl _ | apply Drawn0.step)⟩
                rw [H2.out, if_neg hs, if_pos (.inl hn)]
              · have hn' : decide (9007199254740992 < valB a0 K) = false := by simp; omega
                by_cases hk : 0 < K
                · have hk' : decide ((0 : Int) < (K : Int)) = true := by simp; omega
                  have hx : ∀ h : 1 < a0.size, ((a0[1]'h).toNat : Int) = bt a0 1 := bt_at a0 1
                  have q1 : (1 < a0.size) = True := eq_true (by omega)
                  have qi1 : (1 < (a0.size : Int)) = True := eq_true (by omega)
                  by_cases h1 : bt a0 1 = 0
                  · have h1' : (bt a0 1 == 0) = true := by rw [beq_iff_eq]; exact h1
                    have H3 := Aside0.mk h1
                    clear h1
                    go_wp2
                    repeat (go_quiet (fail); try go_wp2)
                    go_ret3
                    refine ⟨ret3_int ?_, by repeat (first | exact Drawn0.refl _ | apply Drawn0.step)⟩
                    rw [H2.out, if_neg hs, if_pos (.inr ⟨hk, H3.out⟩)]
                  · have h1' : (bt a0 1 == 0) = false := by rw [beq_eq_false_iff_ne]; exact h1
                    go_wp2
                    repeat (go_quiet (fail); try go_wp2)
                    go_ret3
                    refine ⟨ret3_int ?_, by repeat (first | exact Drawn0.refl _ | apply Drawn0.step)⟩
                    rw [H2.out, if_neg hs, if_neg (by rintro (h | ⟨_, h⟩); omega; exact h1 h)]
                    first | rfl | simp
                · have hk' : decide ((0 : Int) < (K : Int)) = false := by simp; omega
                  go_wp2
                  repeat (go_quiet (fail); try go_wp2)
                  go_ret3
                  refine ⟨ret3_int ?_, by repeat (first | exact Drawn0.refl _ | apply Drawn0.step)⟩
                  rw [H2.out, if_neg hs, if_neg (by rintro (h | ⟨h, _⟩) <;> omega)]
                  first | rfl | simp
set_option maxHeartbeats 800000 in
theorem octets_Get.calls (a0 : ByteArray) (r1 : Int) (r2 : Int) (r3 : Int) (w : World) (h : octets_Get.f a0 = some (r1, r2, r3)) :
    Calls Try.prog 99 #[.string a0] w fun e w' => e = .returned (.tuple #[.int .i64 r1, .int .i64 r2, .int .i64 r3]) ∧ Drawn0 w w' := by
  have hA : getA a0 = (r1, r2, r3) := Option.some.inj h
  have HA := Aside0.mk hA
  clear h hA
  by_cases hz : a0.size = 0
  · have hl : a0.toList = [] := toList_nil a0 hz
    have hA := HA.out
    rw [getA, if_pos hz] at hA
    simp only [Prod.mk.injEq] at hA
    obtain ⟨rfl, rfl, rfl⟩ := hA
    go_enter Try.func99, Try.ntmps99
    go_wp2
    go_ret3
    exact ⟨rfl, Drawn0.refl _⟩
  · have hb := bt_range a0 0
    refine get_walk a0 (bt a0 0 % 128).toNat (decide (128 ≤ bt a0 0)) r1 r2 r3 w (by omega) (by omega) ?_ ?_ ?_
    · rw [andNot128 _ hb.1 hb.2]; omega
    · rw [and128 _ hb.1 hb.2]; split <;> simp [*]
    · have hA := HA.out
      rw [getA, if_neg hz] at hA
      unfold GetOk
      rw [← hA]
      have e : ((bt a0 0 % 128).toNat : Int) = bt a0 0 % 128 := Int.toNat_of_nonneg (by omega)
      have e1 : (bt a0 0 % 128 > 7 ∨ 128 ≤ bt a0 0 ∧ bt a0 0 % 128 = 0) ↔ ((bt a0 0 % 128).toNat > 7 ∨ decide (128 ≤ bt a0 0) = true ∧ (bt a0 0 % 128).toNat = 0) := by
        rw [decide_eq_true_iff]; omega
      have e2 : ((a0.size : Int) ≤ bt a0 0 % 128) ↔ a0.size ≤ (bt a0 0 % 128).toNat := by omega
      have e3 : (bt a0 0 % 128 > 0) ↔ (bt a0 0 % 128).toNat > 0 := by omega
      simp only [e1, e2, e3, e, decide_eq_true_iff]
end Go.Proofs.Ytnajmemcdipknaa.PK
namespace Go.Proofs.Ytnajmemcdipknaa.PK
open Go.RowKit Go.Proofs.YtnajmemcdipknaaW.PrintWords Go.Proofs.YtnajmemcdipknaaW.PrintLast Go.Proofs.YtnajmemcdipknaaW.PrintMore
set_option linter.unusedVariables false
set_option linter.unusedSimpArgs false
set_option maxRecDepth 100000
theorem bytesOf_len (s : ByteArray) : (bytesOf s).length = s.size := bytesOf_length s
theorem bytesOf_range (s : ByteArray) : ∀ x ∈ bytesOf s, 0 ≤ x ∧ x ≤ 255 := by
  intro x hx
  simp only [bytesOf, List.mem_map] at hx
  obtain ⟨b, _, rfl⟩ := hx
  have := b.toNat_lt
  omega
theorem strOf_bytes (l : List Int) (h : ∀ x ∈ l, 0 ≤ x ∧ x ≤ 255) : bytesOf (strOfNums l) = l := by
  unfold bytesOf strOfNums
  simp only [List.map_map]
  have : ∀ x ∈ l, ((fun b : UInt8 => (b.toNat : Int)) ∘ fun n : Int => UInt8.ofNat n.toNat) x = x := by
    intro x hx
    have := h x hx
    simp only [Function.comp]
    rw [UInt8.toNat_ofNat']
    omega
  rw [List.map_congr_left this, List.map_id']
theorem str_of_bytes (s : ByteArray) : strOfNums (bytesOf s) = s := by
  apply ByteArray.ext
  unfold bytesOf strOfNums
  apply Array.toList_inj.mp
  simp only [List.map_map]
  have : ∀ x ∈ s.data.toList, ((fun n : Int => UInt8.ofNat n.toNat) ∘ fun b : UInt8 => (b.toNat : Int)) x = x := by
    intro x _
    simp
  rw [List.map_congr_left this, List.map_id']
theorem bytesOf_inj {a b : ByteArray} (h : bytesOf a = bytesOf b) : a = b := by
  rw [← str_of_bytes a, h, str_of_bytes]
theorem toList_iff (a b : ByteArray) : a.toList = b.toList ↔ a = b := by
  constructor
  · intro h
    rw [ByteArray.toList_eq, ByteArray.toList_eq] at h
    exact ByteArray.ext (Array.toList_inj.mp h)
  · rintro rfl; rfl
theorem toList_nil_iff (a : ByteArray) : a.toList = ([] : List UInt8) ↔ a.size = 0 := by
  rw [ByteArray.toList_eq]
  constructor
  · intro h
    have := congrArg List.length h
    simpa using this
  · intro h
    exact List.eq_nil_of_length_eq_zero (by simpa using h)
theorem bytesOf_append (a b : ByteArray) : bytesOf (a ++ b) = bytesOf a ++ bytesOf b := by
  unfold bytesOf
  rw [ByteArray.data_append, Array.toList_append, List.map_append]
theorem bytesOf_extract (s : ByteArray) (a b : Nat) : bytesOf (s.extract a b) = ((bytesOf s).take b).drop a := by
  unfold bytesOf
  rw [ByteArray.data_extract, Array.toList_extract, List.extract_eq_take_drop, List.map_take, List.map_drop]
  rw [List.drop_take]
theorem size_app (a b : ByteArray) : (a ++ b).size = a.size + b.size := ByteArray.size_append
theorem bt_eq (s : ByteArray) (i : Int) : bt s i = (bytesOf s).getD i.toNat 0 := (rd_bytesOf s i).symm
theorem bt_nat (s : ByteArray) (i : Nat) : bt s (i : Int) = (bytesOf s).getD i 0 := by rw [bt_eq, Int.toNat_natCast]
theorem bytes_take (s : ByteArray) (k : Nat) (h : k ≤ s.size) : (bytesOf s).take k = (List.range k).map fun (j : Nat) => bt s (j : Int) := by
  apply List.ext_getElem
  · simp [bytesOf_len]; omega
  · intro i h1 h2
    have hi : i < (bytesOf s).length := by simp at h1; omega
    simp only [List.getElem_take, List.getElem_map, List.getElem_range, bt_nat]
    rw [List.getD_eq_getElem?_getD, List.getElem?_eq_getElem hi]
    rfl
end Go.Proofs.Ytnajmemcdipknaa.PK
