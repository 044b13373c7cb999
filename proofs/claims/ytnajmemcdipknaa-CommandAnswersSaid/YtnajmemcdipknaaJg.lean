/- Functions of the given program as plain Lean functions, and that the Go code answers what they tell (a law's row: the given statement, out of its plain form). Conditions: none beyond each theorem's own premises. Written by this repo's program wip/myprint.py.
Lists written to an Out: its two loops, for any holder that takes numbers and texts. Conditions: none, but what the holder asks.
Items written: to no Out, to an Out; what an item's bytes are. Conditions: what an Out holds stays below 2^47 bytes.
What is written is read again, in plain words: item by item. Condition: the item is neither bad nor too large to be played.
Names in plain words: what the program's Good and the document's Good tell. Condition: none.
command.Good, the walk. Condition: none.
command.Put, the walk. Condition: none.
The document's Good for a command, the walk. Condition: the numbers are numbers of 64 bits.
The document's Put for a command, the walk. Condition: the numbers are numbers of 64 bits. -/
import Derived.Test.YtnajmemcdipknaaJf
import Derived.Test.YtnajmemcdipknaaJb
import Derived.Test.YtnajmemcdipknaaJc
import Derived.Test.YtnajmemcdipknaaJd
import Derived.Test.YtnajmemcdipknaaJe
import Derived.Deep.RegionHeld3
namespace Go.Proofs.Ytnajmemcdipknaa.PC
open Go.RowKit Go.Proofs.YtnajmemcdipknaaW.PrintWords Go.Proofs.YtnajmemcdipknaaW.PrintLast Go.Proofs.YtnajmemcdipknaaW.PrintMore
attribute [local go_sem] max2_int min2_int max_two min_two max_three min_three max_four min_four   -- for this text's walks alone
set_option linter.unusedVariables false
set_option linter.unusedSimpArgs false

/-! ### lex_letter: function 93 -/
def lex_letter.f (a0 : Int) : Option (Bool) := if a0 ≥ 97 then (if a0 ≤ 122 then (some true) else (if a0 ≥ 65 then (some (decide (a0 ≤ 90))) else (some false))) else (if a0 ≥ 65 then (some (decide (a0 ≤ 90))) else (some false))
set_option maxHeartbeats 8000000 in
set_option maxRecDepth 100000 in
theorem lex_letter.calls (a0 : Int) (r : Bool) (w : World) (h : lex_letter.f a0 = some r) :
    Calls Try.prog 93 #[.int .u8 a0] w fun e w' => e = .returned (.bool r) ∧ Drawn0 w w' := by
  have H : (if a0 ≥ 97 then (if a0 ≤ 122 then (some true) else (if a0 ≥ 65 then (some (decide (a0 ≤ 90))) else (some false))) else (if a0 ≥ 65 then (some (decide (a0 ≤ 90))) else (some false))) = some r := h
  clear h
  by_cases c2 : a0 ≥ 97
  · rw [if_pos c2] at H
    have c2b0 : decide (97 ≤ a0) = true := decide_eq_true c2
    clear c2
    by_cases c3 : a0 ≤ 122
    · rw [if_pos c3] at H
      have c3b0 : decide (a0 ≤ 122) = true := decide_eq_true c3
      clear c3
      obtain rfl := Option.some.inj H
      go_enter Try.func93, Try.ntmps93
      go_wp2
      go_ret
      exact ⟨by first | rfl | (simp; done) | (simp [*]; done), by repeat (first | exact Drawn0.refl _ | apply Drawn0.step)⟩
    · rw [if_neg c3] at H
      have c3b0 : decide (a0 ≤ 122) = false := decide_eq_false c3
      clear c3
      by_cases c4 : a0 ≥ 65
      · rw [if_pos c4] at H
        have c4b0 : decide (65 ≤ a0) = true := decide_eq_true c4
        clear c4
        obtain rfl := Option.some.inj H
        go_enter Try.func93, Try.ntmps93
        go_wp2
        go_ret
        exact ⟨by first | rfl | (simp; done) | (simp [*]; done), by repeat (first | exact Drawn0.refl _ | apply Drawn0.step)⟩
      · rw [if_neg c4] at H
        have c4b0 : decide (65 ≤ a0) = false := decide_eq_false c4
        clear c4
        obtain rfl := Option.some.inj H
        go_enter Try.func93, Try.ntmps93
        go_wp2
        go_ret
        exact ⟨by first | rfl | (simp; done) | (simp [*]; done), by repeat (first | exact Drawn0.refl _ | apply Drawn0.step)⟩
  · rw [if_neg c2] at H
    have c2b0 : decide (97 ≤ a0) = false := decide_eq_false c2
    clear c2
    by_cases c5 : a0 ≥ 65
    · rw [if_pos c5] at H
      have c5b0 : decide (65 ≤ a0) = true := decide_eq_true c5
      clear c5
      obtain rfl := Option.some.inj H
      go_enter Try.func93, Try.ntmps93
      go_wp2
      go_ret
      exact ⟨by first | rfl | (simp; done) | (simp [*]; done), by repeat (first | exact Drawn0.refl _ | apply Drawn0.step)⟩
    · rw [if_neg c5] at H
      have c5b0 : decide (65 ≤ a0) = false := decide_eq_false c5
      clear c5
      obtain rfl := Option.some.inj H
      go_enter Try.func93, Try.ntmps93
      go_wp2
      go_ret
      exact ⟨by first | rfl | (simp; done) | (simp [*]; done), by repeat (first | exact Drawn0.refl _ | apply Drawn0.step)⟩

/-! ### lex_inName: function 94 -/
def lex_inName.f (a0 : Int) : Option (Bool) := (lex_letter.f a0).bind fun t101 => (if t101 = true then (some true) else (if a0 ≥ 48 then (if a0 ≤ 57 then (some true) else (if a0 = 95 then (some true) else (some (a0 == 45)))) else (if a0 = 95 then (some true) else (some (a0 == 45)))))
set_option maxHeartbeats 8000000 in
set_option maxRecDepth 100000 in
theorem lex_inName.calls (a0 : Int) (r : Bool) (w : World) (h : lex_inName.f a0 = some r) :
    Calls Try.prog 94 #[.int .u8 a0] w fun e w' => e = .returned (.bool r) ∧ Drawn0 w w' := by
  have H : ((lex_letter.f a0).bind fun t101 => (if t101 = true then (some true) else (if a0 ≥ 48 then (if a0 ≤ 57 then (some true) else (if a0 = 95 then (some true) else (some (a0 == 45)))) else (if a0 = 95 then (some true) else (some (a0 == 45)))))) = some r := h
  clear h
  replace H := Option.bind_eq_some_iff.mp H
  obtain ⟨t101, A20, H⟩ := H
  replace H : (if t101 = true then (some true) else (if a0 ≥ 48 then (if a0 ≤ 57 then (some true) else (if a0 = 95 then (some true) else (some (a0 == 45)))) else (if a0 = 95 then (some true) else (some (a0 == 45))))) = some r := H
  have A2 := Aside0.mk A20
  clear A20
  by_cases c3 : t101 = true
  · subst c3
    have H1 : (some true) = some r := by rw [if_pos rfl] at H; exact H
    clear H
    have H := H1
    clear H1
    obtain rfl := Option.some.inj H
    go_enter Try.func94, Try.ntmps94
    go_wp2_with (first | ((with_reducible refine gate_callee (f := 93) rfl ?_); refine goesL_ (some 4) rfl rfl Try.func93 (by kernel_rfl) rfl #[.int .u8 a0] rfl (by (try simp only [List.map_toArray, List.map_cons, List.map_nil]); first | done | rfl | (simp only [List.length_drop, List.length_take]; rfl)) ?_; (with_reducible refine (lex_letter.calls a0 true _ A2.out).mono ?_); rintro e w' ⟨rfl, ⟨nd, rfl⟩⟩; refine ⟨_, rfl, ?_⟩))
    go_ret
    exact ⟨by first | rfl | (simp; done) | (simp [*]; done), by repeat (first | exact Drawn0.refl _ | apply Drawn0.step)⟩
  · replace c3 := Bool.eq_false_iff.mpr c3
    subst c3
    have H1 : (if a0 ≥ 48 then (if a0 ≤ 57 then (some true) else (if a0 = 95 then (some true) else (some (a0 == 45)))) else (if a0 = 95 then (some true) else (some (a0 == 45)))) = some r := by rw [if_neg (show ¬ (false = true) by decide)] at H; exact H
    clear H
    have H := H1
    clear H1
    by_cases c4 : a0 ≥ 48
    · rw [if_pos c4] at H
      have c4b0 : decide (48 ≤ a0) = true := decide_eq_true c4
      clear c4
      by_cases c5 : a0 ≤ 57
      · rw [if_pos c5] at H
        have c5b0 : decide (a0 ≤ 57) = true := decide_eq_true c5
        clear c5
        obtain rfl := Option.some.inj H
        go_enter Try.func94, Try.ntmps94
        go_wp2_with (first | ((with_reducible refine gate_callee (f := 93) rfl ?_); refine goesL_ (some 4) rfl rfl Try.func93 (by kernel_rfl) rfl #[.int .u8 a0] rfl (by (try simp only [List.map_toArray, List.map_cons, List.map_nil]); first | done | rfl | (simp only [List.length_drop, List.length_take]; rfl)) ?_; (with_reducible refine (lex_letter.calls a0 false _ A2.out).mono ?_); rintro e w' ⟨rfl, ⟨nd, rfl⟩⟩; refine ⟨_, rfl, ?_⟩))
        go_ret
        exact ⟨by first | rfl | (simp; done) | (simp [*]; done), by repeat (first | exact Drawn0.refl _ | apply Drawn0.step)⟩
      · rw [if_neg c5] at H
        have c5b0 : decide (a0 ≤ 57) = false := decide_eq_false c5
        clear c5
        by_cases c6 : a0 = 95
        · rw [if_pos c6] at H
          have c6b0 : (a0 == 95) = true := beq_iff_eq.mpr c6
          have c6b1 : (a0 != 95) = false := bne_eq_false_iff_eq.mpr c6
          clear c6
          obtain rfl := Option.some.inj H
          go_enter Try.func94, Try.ntmps94
          go_wp2_with (first | ((with_reducible refine gate_callee (f := 93) rfl ?_); refine goesL_ (some 4) rfl rfl Try.func93 (by kernel_rfl) rfl #[.int .u8 a0] rfl (by (try simp only [List.map_toArray, List.map_cons, List.map_nil]); first | done | rfl | (simp only [List.length_drop, List.length_take]; rfl)) ?_; (with_reducible refine (lex_letter.calls a0 false _ A2.out).mono ?_); rintro e w' ⟨rfl, ⟨nd, rfl⟩⟩; refine ⟨_, rfl, ?_⟩))
          go_ret
          exact ⟨by first | rfl | (simp; done) | (simp [*]; done), by repeat (first | exact Drawn0.refl _ | apply Drawn0.step)⟩
        · rw [if_neg c6] at H
          have c6b0 : (a0 == 95) = false := beq_eq_false_iff_ne.mpr c6
          have c6b1 : (a0 != 95) = true := bne_iff_ne.mpr c6
          obtain rfl := Option.some.inj H
          go_enter Try.func94, Try.ntmps94
          go_wp2_with (first | ((with_reducible refine gate_callee (f := 93) rfl ?_); refine goesL_ (some 4) rfl rfl Try.func93 (by kernel_rfl) rfl #[.int .u8 a0] rfl (by (try simp only [List.map_toArray, List.map_cons, List.map_nil]); first | done | rfl | (simp only [List.length_drop, List.length_take]; rfl)) ?_; (with_reducible refine (lex_letter.calls a0 false _ A2.out).mono ?_); rintro e w' ⟨rfl, ⟨nd, rfl⟩⟩; refine ⟨_, rfl, ?_⟩))
          go_ret
          exact ⟨by first | rfl | (simp; done) | (simp [*]; done), by repeat (first | exact Drawn0.refl _ | apply Drawn0.step)⟩
    · rw [if_neg c4] at H
      have c4b0 : decide (48 ≤ a0) = false := decide_eq_false c4
      clear c4
      by_cases c7 : a0 = 95
      · rw [if_pos c7] at H
        have c7b0 : (a0 == 95) = true := beq_iff_eq.mpr c7
        have c7b1 : (a0 != 95) = false := bne_eq_false_iff_eq.mpr c7
        clear c7
        obtain rfl := Option.some.inj H
        go_enter Try.func94, Try.ntmps94
        go_wp2_with (first | ((with_reducible refine gate_callee (f := 93) rfl ?_); refine goesL_ (some 4) rfl rfl Try.func93 (by kernel_rfl) rfl #[.int .u8 a0] rfl (by (try simp only [List.map_toArray, List.map_cons, List.map_nil]); first | done | rfl | (simp only [List.length_drop, List.length_take]; rfl)) ?_; (with_reducible refine (lex_letter.calls a0 false _ A2.out).mono ?_); rintro e w' ⟨rfl, ⟨nd, rfl⟩⟩; refine ⟨_, rfl, ?_⟩))
        go_ret
        exact ⟨by first | rfl | (simp; done) | (simp [*]; done), by repeat (first | exact Drawn0.refl _ | apply Drawn0.step)⟩
      · rw [if_neg c7] at H
        have c7b0 : (a0 == 95) = false := beq_eq_false_iff_ne.mpr c7
        have c7b1 : (a0 != 95) = true := bne_iff_ne.mpr c7
        obtain rfl := Option.some.inj H
        go_enter Try.func94, Try.ntmps94
        go_wp2_with (first | ((with_reducible refine gate_callee (f := 93) rfl ?_); refine goesL_ (some 4) rfl rfl Try.func93 (by kernel_rfl) rfl #[.int .u8 a0] rfl (by (try simp only [List.map_toArray, List.map_cons, List.map_nil]); first | done | rfl | (simp only [List.length_drop, List.length_take]; rfl)) ?_; (with_reducible refine (lex_letter.calls a0 false _ A2.out).mono ?_); rintro e w' ⟨rfl, ⟨nd, rfl⟩⟩; refine ⟨_, rfl, ?_⟩))
        go_ret
        exact ⟨by first | rfl | (simp; done) | (simp [*]; done), by repeat (first | exact Drawn0.refl _ | apply Drawn0.step)⟩

/-! ### lex_Good: function 44 -/
mutual
def lex_Good.j0 : Nat → ByteArray → Bool → Option (Bool)
  | 0, _, _ => none
  | k + 1, x0, x16 => if x16 = true then (some false) else (lex_Good.l0 k x0 (x0.size : Int) 0)
def lex_Good.l0 : Nat → ByteArray → Int → Int → Option (Bool)
  | 0, _, _, _ => none
  | k + 1, x0, x18, x19 => if x19 < x18 then (if 0 ≤ x19 then (if x19 < (x0.size : Int) then ((lex_inName.f (bt x0 x19)).bind fun t103 => (if t103 = true then (lex_Good.l0 k x0 x18 (wrap64 (x19 + 1))) else (some false))) else (none)) else (none)) else (some true)
end
def lex_Good.f (k : Nat) (a0 : ByteArray) : Option (Bool) := if a0.toList = ([] : List UInt8) then (lex_Good.j0 k a0 true) else (if (a0.size : Int) > 32 then (lex_Good.j0 k a0 true) else (if 0 < (a0.size : Int) then ((lex_letter.f (bt a0 0)).bind fun t102 => (lex_Good.j0 k a0 (!t102))) else (none)))
theorem lex_Good.mono_l : ∀ k, (∀ y0 y1, LeO (lex_Good.j0 k y0 y1) (lex_Good.j0 (k + 1) y0 y1)) ∧ (∀ y0 y1 y2, LeO (lex_Good.l0 k y0 y1 y2) (lex_Good.l0 (k + 1) y0 y1 y2))
  | 0 => ⟨fun _ _ r h => by simp [lex_Good.j0] at h, fun _ _ _ r h => by simp [lex_Good.l0] at h⟩
  | k + 1 => by
    obtain ⟨ih0, ih1⟩ := lex_Good.mono_l k
    refine ⟨?_, ?_⟩
    · intro y0 y1
      unfold lex_Good.j0
      repeat' first
      | (with_reducible exact ih0 _ _)
      | (with_reducible exact ih1 _ _ _)
      | (with_reducible exact LeO.refl _)
      | (with_reducible exact LeO.none _)
      | (with_reducible refine LeO.ite ?_ ?_)
      | (with_reducible refine LeO.bind ?_ (fun _ => ?_))
      | exact ih0 _ _
      | exact ih1 _ _ _
      | exact LeO.none _
      | refine LeO.ite ?_ ?_
      | refine LeO.bind ?_ (fun _ => ?_)
    · intro y0 y1 y2
      unfold lex_Good.l0
      repeat' first
      | (with_reducible exact ih0 _ _)
      | (with_reducible exact ih1 _ _ _)
      | (with_reducible exact LeO.refl _)
      | (with_reducible exact LeO.none _)
      | (with_reducible refine LeO.ite ?_ ?_)
      | (with_reducible refine LeO.bind ?_ (fun _ => ?_))
      | exact ih0 _ _
      | exact ih1 _ _ _
      | exact LeO.none _
      | refine LeO.ite ?_ ?_
      | refine LeO.bind ?_ (fun _ => ?_)
theorem lex_Good.mono : ∀ a0 k, LeO (lex_Good.f k a0) (lex_Good.f (k + 1) a0) := by
  intro a0 k
  obtain ⟨ih0, ih1⟩ := lex_Good.mono_l k
  unfold lex_Good.f
  repeat' first
      | (with_reducible exact ih0 _ _)
      | (with_reducible exact ih1 _ _ _)
      | (with_reducible exact LeO.refl _)
      | (with_reducible exact LeO.none _)
      | (with_reducible refine LeO.ite ?_ ?_)
      | (with_reducible refine LeO.bind ?_ (fun _ => ?_))
      | exact ih0 _ _
      | exact ih1 _ _ _
      | exact LeO.none _
      | refine LeO.ite ?_ ?_
      | refine LeO.bind ?_ (fun _ => ?_)
set_option maxHeartbeats 8000000 in
set_option maxRecDepth 100000 in
theorem lex_Good.calls (k : Nat) (a0 : ByteArray) (r : Bool) (w : World) (h : lex_Good.f k a0 = some r) :
    Calls Try.prog 44 #[.string a0] w fun e w' => e = .returned (.bool r) ∧ Drawn0 w w' := by
  have H : (if a0.toList = ([] : List UInt8) then (lex_Good.j0 k a0 true) else (if (a0.size : Int) > 32 then (lex_Good.j0 k a0 true) else (if 0 < (a0.size : Int) then ((lex_letter.f (bt a0 0)).bind fun t102 => (lex_Good.j0 k a0 (!t102))) else (none)))) = some r := h
  clear h
  have HC2 := Aside0.mk H
  clear H
  go_enter Try.func44, Try.ntmps44
  go_upto_region 1 with (fail)
  go_cut [16] (fun v16 wc => ∃ (kq : Nat) (x16_1 : Bool), v16 = .bool x16_1 ∧ Aside0 (lex_Good.j0 kq a0 x16_1 = some r) ∧ Aside0 (kq ≤ k) ∧ Drawn0 w wc)
  case first =>
    have H := HC2.out
    clear HC2
    by_cases c3 : a0.toList = ([] : List UInt8)
    · rw [if_pos c3] at H
      have c3b0 : (a0.toList == ([] : List UInt8)) = true := beq_iff_eq.mpr c3
      have c3b1 : (a0.toList != ([] : List UInt8)) = false := bne_eq_false_iff_eq.mpr c3
      clear c3
      (first | rw [c3b0] | (simp only [i64_w, i32_w]; rw [c3b0]) | skip)
      have H' := Aside0.mk H
      clear H
      go_wp2
      go_meet
      case rel => exact ⟨_, (true), (by first | rfl | (simp; done) | (simp [*]; done)), H', ⟨by first | omega | exact Nat.le_refl _⟩, by repeat (first | exact Drawn0.refl _ | apply Drawn0.step)⟩
    · rw [if_neg c3] at H
      have c3b0 : (a0.toList == ([] : List UInt8)) = false := beq_eq_false_iff_ne.mpr c3
      have c3b1 : (a0.toList != ([] : List UInt8)) = true := bne_iff_ne.mpr c3
      (first | rw [c3b0] | (simp only [i64_w, i32_w]; rw [c3b0]) | skip)
      by_cases c4 : (a0.size : Int) > 32
      · rw [if_pos c4] at H
        have c4b0 : decide (32 < (a0.size : Int)) = true := decide_eq_true c4
        have c4b1 : decide (32 < a0.size) = true := decide_eq_true (by omega)
        clear c4
        have H' := Aside0.mk H
        clear H
        go_wp2
        go_meet
        case rel => exact ⟨_, (true), (by first | rfl | (simp; done) | (simp [*]; done)), H', ⟨by first | omega | exact Nat.le_refl _⟩, by repeat (first | exact Drawn0.refl _ | apply Drawn0.step)⟩
      · rw [if_neg c4] at H
        have c4b0 : decide (32 < (a0.size : Int)) = false := decide_eq_false c4
        have c4b1 : decide (32 < a0.size) = false := decide_eq_false (by omega)
        clear c4
        by_cases c5 : 0 < (a0.size : Int)
        · rw [if_pos c5] at H
          have c5b0 : decide (0 < (a0.size : Int)) = true := decide_eq_true c5
          have c5b1 : decide (0 < a0.size) = true := decide_eq_true (by omega)
          clear c5
          replace H := Option.bind_eq_some_iff.mp H
          obtain ⟨t102, A70, H⟩ := H
          replace H : (lex_Good.j0 k a0 (!t102)) = some r := H
          have A7 := Aside0.mk A70
          clear A70
          have H' := Aside0.mk H
          clear H
          have p6 : 0 ≤ (0 : Int) := (by omega)
          have q6 : 0 < a0.size := (by have : (0 : Int) < (a0.size : Int) := of_decide_eq_true (by first | (with_reducible assumption) | assumption); omega)
          have hx6 : ∀ h : 0 < a0.size, ((a0[0]'h).toNat : Int) = bt a0 0 := bt_at a0 0
          clear p6
          have qi6 : (0 < (a0.size : Int)) = True := eq_true (of_decide_eq_true (by first | (with_reducible assumption) | assumption))
          replace q6 := eq_true q6
          go_wp2_with (first | (go_at_call 93; (with_reducible refine (lex_letter.calls (bt a0 0) t102 _ A7.out).mono ?_); rintro e w' ⟨rfl, ⟨nd, rfl⟩⟩))
          go_meet
          case rel => exact ⟨_, (!t102), (by first | rfl | (simp; done) | (simp [*]; done)), H', ⟨by first | omega | exact Nat.le_refl _⟩, by repeat (first | exact Drawn0.refl _ | apply Drawn0.step)⟩
        · rw [if_neg c5] at H
          exact absurd H (by simp)
  case rest =>
    clear HC2
    try clear p2
    try clear c3
    try clear c3b0
    try clear c3b1
    try clear c4
    try clear c4b0
    try clear c4b1
    try clear c5
    try clear c5b0
    try clear c5b1
    try clear p6
    try clear q6
    try clear hx6
    try clear qi6
    try clear p6
    try clear q6
    obtain ⟨kq, x16_1, rfl, HA, HJ1, ⟨mc1, rfl⟩⟩ := hcut
    cases kq with
    | zero => exact absurd HA.out (by simp [lex_Good.j0])
    | succ kj1 =>
      have H := HA.out
      clear HA
      simp only [lex_Good.j0] at H
      by_cases c8 : x16_1 = true
      · subst c8
        have H1 : (some false) = some r := by rw [if_pos rfl] at H; exact H
        clear H
        have H := H1
        clear H1
        obtain rfl := Option.some.inj H
        go_wp2
        go_ret
        exact ⟨by first | rfl | (simp; done) | (simp [*]; done), by repeat (first | exact Drawn0.refl _ | apply Drawn0.step)⟩
      · replace c8 := Bool.eq_false_iff.mpr c8
        subst c8
        have H1 : (lex_Good.l0 kj1 a0 (a0.size : Int) 0) = some r := by rw [if_neg (show ¬ (false = true) by decide)] at H; exact H
        clear H
        have H := H1
        clear H1
        have H' := Aside0.mk H
        clear H
        go_wp2
        go_loopg [19] kj1 (fun kq v19 w' => ∃ (x19_2 : Int), v19 = .int .i64 x19_2 ∧ Aside0 (lex_Good.l0 kq a0 (a0.size : Int) x19_2 = some r) ∧ Aside0 (kq ≤ kj1) ∧ Drawn0 w w')
        case atStart => exact ⟨(0), (by first | rfl | (simp; done) | (simp [*]; done)), H', ⟨Nat.le_refl _⟩, by repeat (first | exact Drawn0.refl _ | apply Drawn0.step)⟩
        case round =>
          clear H'
          try clear c1
          try clear p2
          try clear c3
          try clear c3b0
          try clear c3b1
          try clear c4
          try clear c4b0
          try clear c4b1
          try clear c5
          try clear c5b0
          try clear c5b1
          try clear p6
          try clear q6
          try clear hx6
          try clear qi6
          try clear c8
          try clear p2
          try clear p6
          try clear q6
          obtain ⟨x19_2, rfl, HA, HK2, ⟨m2, rfl⟩⟩ := hrel
          cases gk with
          | zero => exact absurd HA.out (by simp [lex_Good.l0])
          | succ k2 =>
            have H := HA.out
            clear HA
            simp only [lex_Good.l0] at H
            by_cases c9 : x19_2 < (a0.size : Int)
            · rw [if_pos c9] at H
              have c9b0 : decide (x19_2 < (a0.size : Int)) = true := decide_eq_true c9
              clear c9
              by_cases c10 : 0 ≤ x19_2
              · rw [if_pos c10] at H
                have c10b0 : decide (0 ≤ x19_2) = true := decide_eq_true c10
                clear c10
                by_cases c11 : x19_2 < (a0.size : Int)
                · rw [if_pos c11] at H
                  have c11b0 : decide (x19_2 < (a0.size : Int)) = true := decide_eq_true c11
                  clear c11
                  replace H := Option.bind_eq_some_iff.mp H
                  obtain ⟨t103, A130, H⟩ := H
                  replace H : (if t103 = true then (lex_Good.l0 k2 a0 (a0.size : Int) (wrap64 (x19_2 + 1))) else (some false)) = some r := H
                  have A13 := Aside0.mk A130
                  clear A130
                  by_cases c14 : t103 = true
                  · subst c14
                    have H1 : (lex_Good.l0 k2 a0 (a0.size : Int) (wrap64 (x19_2 + 1))) = some r := by rw [if_pos rfl] at H; exact H
                    clear H
                    have H := H1
                    clear H1
                    have H' := Aside0.mk H
                    clear H
                    have p12 : 0 ≤ (x19_2 : Int) := of_decide_eq_true (by first | (with_reducible assumption) | assumption)
                    have q12 : x19_2 < (a0.size : Int) := of_decide_eq_true (by first | (with_reducible assumption) | assumption)
                    have hx12 := bt_at a0 x19_2
                    replace p12 := eq_true p12
                    replace q12 := eq_true q12
                    go_wp2_with (first | ((with_reducible refine gate_callee (f := 94) rfl ?_); refine goesL_ (some 25) rfl rfl Try.func94 (by kernel_rfl) rfl #[.int .u8 (bt a0 x19_2)] rfl (by (try simp only [List.map_toArray, List.map_cons, List.map_nil]); first | done | rfl | (simp only [List.length_drop, List.length_take]; rfl)) ?_; (with_reducible refine (lex_inName.calls (bt a0 x19_2) true _ A13.out).mono ?_); rintro e w' ⟨rfl, ⟨nd, rfl⟩⟩; refine ⟨_, rfl, ?_⟩))
                    go_roundg k2
                    case measure => have := HJ1.out; have := HK2.out; omega
                    case rel => exact ⟨(wrap64 (x19_2 + 1)), (by first | rfl | (simp; done) | (simp [*]; done)), H', ⟨by have := HJ1.out; have := HK2.out; omega⟩, by repeat (first | exact Drawn0.refl _ | apply Drawn0.step)⟩
                  · replace c14 := Bool.eq_false_iff.mpr c14
                    subst c14
                    have H1 : (some false) = some r := by rw [if_neg (show ¬ (false = true) by decide)] at H; exact H
                    clear H
                    have H := H1
                    clear H1
                    obtain rfl := Option.some.inj H
                    have p12 : 0 ≤ (x19_2 : Int) := of_decide_eq_true (by first | (with_reducible assumption) | assumption)
                    have q12 : x19_2 < (a0.size : Int) := of_decide_eq_true (by first | (with_reducible assumption) | assumption)
                    have hx12 := bt_at a0 x19_2
                    replace p12 := eq_true p12
                    replace q12 := eq_true q12
                    go_wp2_with (first | ((with_reducible refine gate_callee (f := 94) rfl ?_); refine goesL_ (some 25) rfl rfl Try.func94 (by kernel_rfl) rfl #[.int .u8 (bt a0 x19_2)] rfl (by (try simp only [List.map_toArray, List.map_cons, List.map_nil]); first | done | rfl | (simp only [List.length_drop, List.length_take]; rfl)) ?_; (with_reducible refine (lex_inName.calls (bt a0 x19_2) false _ A13.out).mono ?_); rintro e w' ⟨rfl, ⟨nd, rfl⟩⟩; refine ⟨_, rfl, ?_⟩))
                    go_ret
                    exact ⟨by first | rfl | (simp; done) | (simp [*]; done), by repeat (first | exact Drawn0.refl _ | apply Drawn0.step)⟩
                · rw [if_neg c11] at H
                  exact absurd H (by simp)
              · rw [if_neg c10] at H
                exact absurd H (by simp)
            · rw [if_neg c9] at H
              have c9b0 : decide (x19_2 < (a0.size : Int)) = false := decide_eq_false c9
              clear c9
              obtain rfl := Option.some.inj H
              go_wp2
              go_ret
              exact ⟨by first | rfl | (simp; done) | (simp [*]; done), by repeat (first | exact Drawn0.refl _ | apply Drawn0.step)⟩

/-! ### command_name: function 45 -/
def command_name.f (k : Nat) (a0 : ByteArray) : Option (Bool) := if a0.toList = ([] : List UInt8) then (some true) else ((lex_Good.f k a0).bind fun t104 => (some t104))
theorem command_name.mono : ∀ a0 k, LeO (command_name.f k a0) (command_name.f (k + 1) a0) := by
  intro a0 k
  unfold command_name.f
  repeat' first
      | (with_reducible exact lex_Good.mono _ _)
      | (with_reducible exact LeO.refl _)
      | (with_reducible exact LeO.none _)
      | (with_reducible refine LeO.ite ?_ ?_)
      | (with_reducible refine LeO.bind ?_ (fun _ => ?_))
      | exact lex_Good.mono _ _
      | exact LeO.none _
      | refine LeO.ite ?_ ?_
      | refine LeO.bind ?_ (fun _ => ?_)
set_option maxHeartbeats 8000000 in
set_option maxRecDepth 100000 in
theorem command_name.calls (k : Nat) (a0 : ByteArray) (r : Bool) (w : World) (h : command_name.f k a0 = some r) :
    Calls Try.prog 45 #[.string a0] w fun e w' => e = .returned (.bool r) ∧ Drawn0 w w' := by
  have H : (if a0.toList = ([] : List UInt8) then (some true) else ((lex_Good.f k a0).bind fun t104 => (some t104))) = some r := h
  clear h
  by_cases c2 : a0.toList = ([] : List UInt8)
  · rw [if_pos c2] at H
    have c2b0 : (a0.toList == ([] : List UInt8)) = true := beq_iff_eq.mpr c2
    have c2b1 : (a0.toList != ([] : List UInt8)) = false := bne_eq_false_iff_eq.mpr c2
    clear c2
    obtain rfl := Option.some.inj H
    go_enter Try.func45, Try.ntmps45
    go_wp2
    go_ret
    exact ⟨by first | rfl | (simp; done) | (simp [*]; done), by repeat (first | exact Drawn0.refl _ | apply Drawn0.step)⟩
  · rw [if_neg c2] at H
    have c2b0 : (a0.toList == ([] : List UInt8)) = false := beq_eq_false_iff_ne.mpr c2
    have c2b1 : (a0.toList != ([] : List UInt8)) = true := bne_iff_ne.mpr c2
    replace H := Option.bind_eq_some_iff.mp H
    obtain ⟨t104, A30, H⟩ := H
    replace H : (some t104) = some r := H
    have A3 := Aside0.mk A30
    clear A30
    obtain rfl := Option.some.inj H
    go_enter Try.func45, Try.ntmps45
    go_wp2_with (first | (go_at_call 44; (with_reducible refine (lex_Good.calls k a0 t104 _ A3.out).mono ?_); rintro e w' ⟨rfl, ⟨nd, rfl⟩⟩))
    go_ret
    exact ⟨by first | rfl | (simp; done) | (simp [*]; done), by repeat (first | exact Drawn0.refl _ | apply Drawn0.step)⟩

/-! ### primerref04_letter: function 96 -/
/-! ### primerref04_rest: function 97 -/
/-! ### primerref04_Good: function 48 -/
/-! ### primerref21_text: function 50 -/
end Go.Proofs.Ytnajmemcdipknaa.PC
namespace Go.Proofs.Ytnajmemcdipknaa.PC
open Go.RowKit Go.Proofs.YtnajmemcdipknaaW.PrintWords Go.Proofs.YtnajmemcdipknaaW.PrintLast Go.Proofs.YtnajmemcdipknaaW.PrintMore
attribute [local go_sem] max2_int min2_int max_two min_two max_three min_three max_four min_four   -- for this text's walks alone
set_option linter.unusedVariables false
set_option linter.unusedSimpArgs false

/-! ### primerref21_texts: function 51 -/
/-! ### primerlaw21_texts: function 58 -/
def primerlaw21_texts.l0 : Nat → List ByteArray → List ByteArray → Int → Option (Bool)
  | 0, _, _, _ => none
  | k + 1, x0, x1, x5 => if x5 < (x0.length : Int) then (if 0 ≤ x5 then (if x5 < (x1.length : Int) then (if (rdOf ByteArray.empty x0 x5).toList = (rdOf ByteArray.empty x1 x5).toList then (primerlaw21_texts.l0 k x0 x1 (wrap64 (x5 + 1))) else (some false)) else (none)) else (none)) else (some true)
def primerlaw21_texts.f (k : Nat) (l0 : List ByteArray) (l1 : List ByteArray) : Option (Bool) := if (l0.length : Int) = (l1.length : Int) then (primerlaw21_texts.l0 k l0 l1 0) else (some false)
theorem primerlaw21_texts.mono_l : ∀ k, (∀ y0 y1 y2, LeO (primerlaw21_texts.l0 k y0 y1 y2) (primerlaw21_texts.l0 (k + 1) y0 y1 y2))
  | 0 => fun _ _ _ r h => by simp [primerlaw21_texts.l0] at h
  | k + 1 => by
    have ih0 := primerlaw21_texts.mono_l k
    · intro y0 y1 y2
      unfold primerlaw21_texts.l0
      repeat' first
      | (with_reducible exact ih0 _ _ _)
      | (with_reducible exact LeO.refl _)
      | (with_reducible exact LeO.none _)
      | (with_reducible refine LeO.ite ?_ ?_)
      | (with_reducible refine LeO.bind ?_ (fun _ => ?_))
      | exact ih0 _ _ _
      | exact LeO.none _
      | refine LeO.ite ?_ ?_
      | refine LeO.bind ?_ (fun _ => ?_)
theorem primerlaw21_texts.mono : ∀ a0 a1 k, LeO (primerlaw21_texts.f k a0 a1) (primerlaw21_texts.f (k + 1) a0 a1) := by
  intro a0 a1 k
  have ih0 := primerlaw21_texts.mono_l k
  unfold primerlaw21_texts.f
  repeat' first
      | (with_reducible exact ih0 _ _ _)
      | (with_reducible exact LeO.refl _)
      | (with_reducible exact LeO.none _)
      | (with_reducible refine LeO.ite ?_ ?_)
      | (with_reducible refine LeO.bind ?_ (fun _ => ?_))
      | exact ih0 _ _ _
      | exact LeO.none _
      | refine LeO.ite ?_ ?_
      | refine LeO.bind ?_ (fun _ => ?_)
set_option maxHeartbeats 8000000 in
set_option maxRecDepth 100000 in
theorem primerlaw21_texts.calls (k : Nat) (A0 : Option Addr) (c0 : Nat) (l0 : List ByteArray) (A1 : Option Addr) (c1 : Nat) (l1 : List ByteArray) (r : Bool) (w : World) (hr0 : Kd.C Kd.string w A0 l0.length l0) (hc0 : l0.length ≤ c0) (hr1 : Kd.C Kd.string w A1 l1.length l1) (hc1 : l1.length ≤ c1) (h : primerlaw21_texts.f k l0 l1 = some r) :
    Calls Try.prog 58 #[.slice A0 l0.length c0, .slice A1 l1.length c1] w fun e w' => e = .returned (.bool r) ∧ Drawn0 w w' := by
  have HR0 := Aside0.mk hr0
  have HC0 := Aside0.mk hc0
  clear hr0 hc0
  have HR1 := Aside0.mk hr1
  have HC1 := Aside0.mk hc1
  clear hr1 hc1
  have H : (if (l0.length : Int) = (l1.length : Int) then (primerlaw21_texts.l0 k l0 l1 0) else (some false)) = some r := h
  clear h
  by_cases c3 : (l0.length : Int) = (l1.length : Int)
  · rw [if_pos c3] at H
    have c3b0 : ((l0.length : Int) == (l1.length : Int)) = true := beq_iff_eq.mpr c3
    have c3b1 : ((l0.length : Int) != (l1.length : Int)) = false := bne_eq_false_iff_eq.mpr c3
    have c3b2 : (l0.length == l1.length) = true := by first | simpa using c3 | (simp at c3 ⊢; omega)
    clear c3
    have H' := Aside0.mk H
    clear H
    go_enter Try.func58, Try.ntmps58
    go_wp2
    repeat (go_quiet (fail); try go_wp2)
    go_loopg [5] k (fun kq v5 w' => ∃ (x5_1 : Int), v5 = .int .i64 x5_1 ∧ Aside0 (primerlaw21_texts.l0 kq l0 l1 x5_1 = some r) ∧ Aside0 (kq ≤ k) ∧ Drawn0 w w')
    case atStart => exact ⟨(0), (by first | rfl | (simp; done) | (simp [*]; done)), H', ⟨Nat.le_refl _⟩, by repeat (first | exact Drawn0.refl _ | apply Drawn0.step)⟩
    case round =>
      clear H'
      try clear c1
      try clear p2
      try clear c3
      try clear c3b0
      try clear c3b1
      try clear c3b2
      obtain ⟨x5_1, rfl, HA, HK1, ⟨m1, rfl⟩⟩ := hrel
      cases gk with
      | zero => exact absurd HA.out (by simp [primerlaw21_texts.l0])
      | succ k1 =>
        have H := HA.out
        clear HA
        simp only [primerlaw21_texts.l0] at H
        by_cases c4 : x5_1 < (l0.length : Int)
        · rw [if_pos c4] at H
          have c4b0 : decide (x5_1 < (l0.length : Int)) = true := decide_eq_true c4
          clear c4
          by_cases c5 : 0 ≤ x5_1
          · rw [if_pos c5] at H
            have c5b0 : decide (0 ≤ x5_1) = true := decide_eq_true c5
            clear c5
            by_cases c6 : x5_1 < (l1.length : Int)
            · rw [if_pos c6] at H
              have c6b0 : decide (x5_1 < (l1.length : Int)) = true := decide_eq_true c6
              clear c6
              by_cases c7 : (rdOf ByteArray.empty l0 x5_1).toList = (rdOf ByteArray.empty l1 x5_1).toList
              · rw [if_pos c7] at H
                have c7b0 : ((rdOf ByteArray.empty l0 x5_1).toList == (rdOf ByteArray.empty l1 x5_1).toList) = true := beq_iff_eq.mpr c7
                have c7b1 : ((rdOf ByteArray.empty l0 x5_1).toList != (rdOf ByteArray.empty l1 x5_1).toList) = false := bne_eq_false_iff_eq.mpr c7
                clear c7
                have H' := Aside0.mk H
                clear H
                have p113 : 0 ≤ (x5_1 : Int) := of_decide_eq_true (by first | (with_reducible assumption) | assumption)
                have q113 : x5_1 < (l0.length : Int) := of_decide_eq_true (by first | (with_reducible assumption) | assumption)
                obtain ⟨ad113, e113, hx113_0⟩ := Kd.at_string HR0.out x5_1 p113 q113
                cases e113
                replace p113 := eq_true p113
                replace q113 := eq_true q113
                have p114 : 0 ≤ (x5_1 : Int) := of_decide_eq_true (by first | (with_reducible assumption) | assumption)
                have q114 : x5_1 < (l1.length : Int) := of_decide_eq_true (by first | (with_reducible assumption) | assumption)
                obtain ⟨ad114, e114, hx114_0⟩ := Kd.at_string HR1.out x5_1 p114 q114
                cases e114
                replace p114 := eq_true p114
                replace q114 := eq_true q114
                go_wp2
                repeat (go_quiet (fail); try go_wp2)
                go_roundg k1
                case measure => have := HK1.out; omega
                case rel => exact ⟨(wrap64 (x5_1 + 1)), (by first | rfl | (simp; done) | (simp [*]; done)), H', ⟨by have := HK1.out; omega⟩, by repeat (first | exact Drawn0.refl _ | apply Drawn0.step)⟩
              · rw [if_neg c7] at H
                have c7b0 : ((rdOf ByteArray.empty l0 x5_1).toList == (rdOf ByteArray.empty l1 x5_1).toList) = false := beq_eq_false_iff_ne.mpr c7
                have c7b1 : ((rdOf ByteArray.empty l0 x5_1).toList != (rdOf ByteArray.empty l1 x5_1).toList) = true := bne_iff_ne.mpr c7
                obtain rfl := Option.some.inj H
                have p113 : 0 ≤ (x5_1 : Int) := of_decide_eq_true (by first | (with_reducible assumption) | assumption)
                have q113 : x5_1 < (l0.length : Int) := of_decide_eq_true (by first | (with_reducible assumption) | assumption)
                obtain ⟨ad113, e113, hx113_0⟩ := Kd.at_string HR0.out x5_1 p113 q113
                cases e113
                replace p113 := eq_true p113
                replace q113 := eq_true q113
                have p114 : 0 ≤ (x5_1 : Int) := of_decide_eq_true (by first | (with_reducible assumption) | assumption)
                have q114 : x5_1 < (l1.length : Int) := of_decide_eq_true (by first | (with_reducible assumption) | assumption)
                obtain ⟨ad114, e114, hx114_0⟩ := Kd.at_string HR1.out x5_1 p114 q114
                cases e114
                replace p114 := eq_true p114
                replace q114 := eq_true q114
                go_wp2
                repeat (go_quiet (fail); try go_wp2)
                go_ret
                exact ⟨by first | rfl | (simp; done) | (simp [*]; done), by repeat (first | exact Drawn0.refl _ | apply Drawn0.step)⟩
            · rw [if_neg c6] at H
              exact absurd H (by simp)
          · rw [if_neg c5] at H
            exact absurd H (by simp)
        · rw [if_neg c4] at H
          have c4b0 : decide (x5_1 < (l0.length : Int)) = false := decide_eq_false c4
          clear c4
          obtain rfl := Option.some.inj H
          go_wp2
          repeat (go_quiet (fail); try go_wp2)
          go_ret
          exact ⟨by first | rfl | (simp; done) | (simp [*]; done), by repeat (first | exact Drawn0.refl _ | apply Drawn0.step)⟩
  · rw [if_neg c3] at H
    have c3b0 : ((l0.length : Int) == (l1.length : Int)) = false := beq_eq_false_iff_ne.mpr c3
    have c3b1 : ((l0.length : Int) != (l1.length : Int)) = true := bne_iff_ne.mpr c3
    have c3b2 : (l0.length == l1.length) = false := by first | simpa using c3 | (simp at c3 ⊢; omega)
    obtain rfl := Option.some.inj H
    go_enter Try.func58, Try.ntmps58
    go_wp2
    repeat (go_quiet (fail); try go_wp2)
    go_ret
    exact ⟨by first | rfl | (simp; done) | (simp [*]; done), by repeat (first | exact Drawn0.refl _ | apply Drawn0.step)⟩

/-! ### slices_Equal_string_string: function 82 -/
end Go.Proofs.Ytnajmemcdipknaa.PC
namespace Go.Proofs.Ytnajmemcdipknaa.PC
open Go.RowKit Go.Proofs.YtnajmemcdipknaaW.PrintWords Go.Proofs.YtnajmemcdipknaaW.PrintLast Go.Proofs.YtnajmemcdipknaaW.PrintMore
attribute [local go_sem] max2_int min2_int max_two min_two max_three min_three max_four min_four   -- for this text's walks alone
set_option linter.unusedVariables false
set_option linter.unusedSimpArgs false

end Go.Proofs.Ytnajmemcdipknaa.PC
namespace Go.Proofs.Ytnajmemcdipknaa.PK
open Go.RowKit Go.Proofs.YtnajmemcdipknaaW.PrintWords Go.Proofs.YtnajmemcdipknaaW.PrintLast Go.Proofs.YtnajmemcdipknaaW.PrintMore
open Go.ChangeShapes Go.WideShapes
set_option linter.unusedVariables false
set_option linter.unusedSimpArgs false
set_option maxRecDepth 100000
/-- What takes numbers, yes and no, texts and counts: I says what it holds, ok how much it may hold. -/
structure Takes (p : Value) (ok : Nat → Prop) (I : World → List Int → Bool → Prop) : Prop where
  int : ∀ w l bad n, I w l bad → ok (l.length + 8) → Calls Try.prog 40 #[p, .int .i64 n] w fun e w' => e = .returned (.tuple #[]) ∧ I w' (l ++ putL n) (bad || !fitsN n)
  count : ∀ w l bad n, I w l bad → ok (l.length + 8) → Calls Try.prog 92 #[p, .int .i64 n] w fun e w' => e = .returned (.tuple #[]) ∧ I w' (l ++ putL n) (bad || !decide (n ≤ 65536))
  text : ∀ w l bad s, I w l bad → ok (l.length + 65544) → Calls Try.prog 41 #[p, .string s] w fun e w' => e = .returned (.tuple #[]) ∧ I w' (l ++ textL s) (bad || decide (65536 < s.size))
def textsL (xs : List ByteArray) : List Int := putL xs.length ++ xs.flatMap textL
def badTexts (xs : List ByteArray) : Bool := !decide ((xs.length : Int) ≤ 65536) || xs.any fun s => decide (65536 < s.size)
theorem flat_le {α : Type} (f : α → List Int) (m : Nat) (hf : ∀ x, (f x).length ≤ m) (xs : List α) : (xs.flatMap f).length ≤ m * xs.length := by
  induction xs with
  | nil => simp
  | cons a xs ih =>
    rw [List.flatMap_cons, List.length_append, List.length_cons, Nat.mul_add, Nat.mul_one]
    have := hf a; omega
theorem take_mul {α : Type} (m : Nat) (xs : List α) (j : Nat) : m * (xs.take j).length ≤ m * xs.length := Nat.mul_le_mul_left _ (by rw [List.length_take]; omega)
theorem textL_len (s : ByteArray) : (textL s).length ≤ 65544 := by
  unfold textL
  split
  · simp
  · have := putL_len s.size
    rw [List.length_append, bytesOf_len]; omega
theorem flat_take {α : Type} (f : α → List Int) (xs : List α) (j : Nat) (h : j < xs.length) : (xs.take (j + 1)).flatMap f = (xs.take j).flatMap f ++ f xs[j] := by
  rw [List.take_succ_eq_append_getElem h, List.flatMap_append]; simp
theorem any_take {α : Type} (f : α → Bool) (xs : List α) (j : Nat) (h : j < xs.length) : (xs.take (j + 1)).any f = ((xs.take j).any f || f xs[j]) := by
  rw [List.take_succ_eq_append_getElem h, List.any_append]; simp
section
variable {p : Value} {ok : Nat → Prop} {I : World → List Int → Bool → Prop} (HT : Takes p ok I)
include HT
set_option maxHeartbeats 1600000 in
theorem out_texts (A : Option Addr) (c : Nat) (xs : List ByteArray) (l : List Int) (bad : Bool) (w : World) (hI : I w l bad)
    (hR : ∀ w' l' bad', I w' l' bad' → Kd.C Kd.string w' A xs.length xs) (hok : ∀ n, n ≤ l.length + (65544 * xs.length + 70000) → ok n) (hp : ∃ a, p = .pointer a) :
    Calls Try.prog 42 #[p, .slice A xs.length c] w fun e w' => e = .returned (.tuple #[]) ∧ I w' (l ++ textsL xs) (bad || badTexts xs) := by
  obtain ⟨a, rfl⟩ := hp
  have H0 := Aside0.mk hI
  have HR := Aside0.mk hR
  have HOK := Aside0.mk hok
  clear hI hR hok
  have hlen := putL_len xs.length
  have hfl : ∀ j, ((xs.take j).flatMap textL).length ≤ 65544 * xs.length := fun j => Nat.le_trans (flat_le textL 65544 textL_len _) (take_mul _ xs j)
  have HF := Aside0.mk hfl
  have HL := Aside0.mk hlen
  clear hfl hlen
  go_enter Try.func42, Try.ntmps42
  go_wp2_with fail
  refine (HT.count w l bad xs.length H0.out (HOK.out _ (by omega))).mono ?_
  rintro e w1 ⟨rfl, hI1⟩
  have HI1 := Aside0.mk hI1
  clear hI1
  go_wp2_with fail
  go_loopw [5, 12] (fun _ i wr => ∃ j : Nat, j ≤ xs.length ∧ i = .int .i64 j ∧ Aside0 (I wr (l ++ putL xs.length ++ (xs.take j).flatMap textL) (bad || !decide ((xs.length : Int) ≤ 65536) || (xs.take j).any fun s => decide (65536 < s.size)))) (fun _ i _ => xs.length - (intOf i).toNat)
  case atStart => exact ⟨0, Nat.zero_le _, rfl, ⟨by simpa using HI1.out⟩⟩
  case round =>
    obtain ⟨j, hj, rfl, hrel⟩ := hrel
    clear HI1
    by_cases hjn : j < xs.length
    · have hmx := (HR.out _ _ _ hrel.out).2.1
      obtain ⟨ad, rfl, hcell⟩ := C_str (HR.out _ _ _ hrel.out) j hjn
      have hd : decide ((j : Int) < (xs.length : Int)) = true := by simp; omega
      obtain ⟨x, hx⟩ : ∃ x, x = xs[j] := ⟨_, rfl⟩
      rw [← hx] at hcell
      have HX := Aside0.mk hx
      clear hx
      go_wp2_with fail
      refine (HT.text wr _ _ x hrel.out (HOK.out _ (by have := HF.out j; have := HL.out; simp only [List.length_append]; omega))).mono ?_
      rintro e w2 ⟨rfl, hI2⟩
      have HI2 := Aside0.mk hI2
      clear hI2 hrel hcell
      go_wp2_with fail
      go_roundw
      case rel =>
        refine ⟨j + 1, by omega, by go_num, ⟨?_⟩⟩
        have h := HI2.out
        rw [flat_take textL xs j hjn, any_take _ xs j hjn, ← List.append_assoc, ← Bool.or_assoc, ← HX.out]
        exact h
      case measure => simp [intOf]; omega
    · obtain rfl : xs.length = j := by omega
      have hd : decide ((xs.length : Int) < (xs.length : Int)) = false := by simp
      go_wp2
      go_end0
      refine ⟨rfl, ?_⟩
      have h := hrel.out
      rw [List.take_length] at h
      unfold textsL badTexts
      rw [← List.append_assoc, ← Bool.or_assoc]
      exact h
end
end Go.Proofs.Ytnajmemcdipknaa.PK
namespace Go.Proofs.Ytnajmemcdipknaa.PK
open Go.RowKit Go.Proofs.YtnajmemcdipknaaW.PrintWords Go.Proofs.YtnajmemcdipknaaW.PrintLast Go.Proofs.YtnajmemcdipknaaW.PrintMore
open Go.ChangeShapes Go.WideShapes
set_option linter.unusedVariables false
set_option linter.unusedSimpArgs false
set_option maxRecDepth 100000
/-- An Out, from a world on. -/
def OutI (w0 : World) (b o : Nat) (T : TypeId) (cs : Array Value) (base : Nat) (w' : World) (l : List Int) (bad : Bool) : Prop := OutB w' b o T cs base l bad ∧ OutK w0 w' b base ∧ base ≤ w'.heap.size
theorem takes_out (w0 : World) (b o : Nat) (T : TypeId) (cs : Array Value) (base : Nat) : Takes (.pointer (some ⟨b, o, none⟩)) (fun n => n ≤ 140737488355328) (OutI w0 b o T cs base) where
  int w l bad n h hl := (out_int b o T cs base l bad w h.1 h.2.2 n hl).mono fun e w' ⟨he, hb, hk⟩ => ⟨he, hb, h.2.1.trans hk, Nat.le_trans h.2.2 hk.size⟩
  count w l bad n h hl := (out_count b o T cs base l bad w h.1 h.2.2 n hl).mono fun e w' ⟨he, hb, hk⟩ => ⟨he, hb, h.2.1.trans hk, Nat.le_trans h.2.2 hk.size⟩
  text w l bad n h hl := (out_text b o T cs base l bad w h.1 h.2.2 n hl).mono fun e w' ⟨he, hb, hk⟩ => ⟨he, hb, h.2.1.trans hk, Nat.le_trans h.2.2 hk.size⟩
theorem fits_in {n : Int} (h : -9007199254740992 ≤ n) (h2 : n ≤ 9007199254740992) : fitsN n = true := by unfold fitsN; simp; omega
theorem fits_hi {n : Int} (h : ¬ n ≤ 9007199254740992) : fitsN n = false := by unfold fitsN; simp; omega
theorem fits_lo {n : Int} (h : ¬ -9007199254740992 ≤ n) : fitsN n = false := by unfold fitsN; simp; omega
theorem outI_below {w w1 wr : World} {b o : Nat} {T : TypeId} {cs : Array Value} {base : Nat} {l : List Int} {bad : Bool} (h1 : Below w.heap.size w w1) (h : OutI w1 b o T cs base wr l bad) (hb : w.heap.size ≤ base) (hb2 : w.heap.size ≤ b) : Below w.heap.size w wr := h1.trans (h.2.1.below hb hb2)
end Go.Proofs.Ytnajmemcdipknaa.PK
namespace Go.Proofs.Ytnajmemcdipknaa.PK
open Go.RowKit Go.Proofs.YtnajmemcdipknaaW.PrintWords Go.Proofs.YtnajmemcdipknaaW.PrintLast Go.Proofs.YtnajmemcdipknaaW.PrintMore
set_option linter.unusedVariables false
set_option linter.unusedSimpArgs false
set_option maxRecDepth 100000
theorem rest_range {s : ByteArray} {a r : List Int} (h : bytesOf s = a ++ r) : ∀ y ∈ r, 0 ≤ y ∧ y ≤ 255 := fun y hy => bytesOf_range s y (by rw [h]; exact List.mem_append_right _ hy)
theorem cut_rest {s : ByteArray} {a r : List Int} (h : bytesOf s = a ++ r) (n : Nat) (hn : n = a.length) : bytesOf (s.extract n s.size) = r := by
  rw [bytesOf_extract, ← bytesOf_len, List.take_length, h, hn, List.drop_left]
theorem rd_int (n : Int) (hn : -9007199254740992 ≤ n ∧ n ≤ 9007199254740992) (s : ByteArray) (r : List Int) (h : bytesOf s = putL n ++ r) : ∃ s', inInt s 0 = (n, s', 0) ∧ bytesOf s' = r := by
  have hg := get_put n hn s (strOfNums r) (by rw [h, strOf_bytes _ (rest_range h)])
  refine ⟨s.extract (putL n).length s.size, ?_, cut_rest h _ rfl⟩
  unfold inInt
  rw [if_pos rfl, hg, if_pos rfl, Int.toNat_natCast]
theorem rd_size (n most : Int) (h0 : 0 ≤ n) (h1 : n ≤ most) (h2 : n ≤ 65536) (s : ByteArray) (r : List Int) (h : bytesOf s = putL n ++ r) : ∃ s', inSize s 0 most = (n, s', 0) ∧ bytesOf s' = r := by
  obtain ⟨s', hi, hr⟩ := rd_int n (by omega) s r h
  refine ⟨s', ?_, hr⟩
  have he : sizeErr n most = 0 := by unfold sizeErr; rw [if_neg (by omega), if_neg (by omega)]
  unfold inSize
  rw [hi]
  simp only [if_true, he]
theorem rd_text (t : ByteArray) (ht : t.size ≤ 65536) (s : ByteArray) (r : List Int) (h : bytesOf s = textL t ++ r) : ∃ s', inText s 0 = (t, s', 0) ∧ bytesOf s' = r := by
  have htl : textL t = putL t.size ++ bytesOf t := by unfold textL; rw [if_neg (by omega)]
  rw [htl, List.append_assoc] at h
  obtain ⟨s', hi, hr⟩ := rd_size t.size 65536 (by omega) (by omega) (by omega) s _ h
  refine ⟨s'.extract t.size s'.size, ?_, cut_rest hr _ (bytesOf_len t).symm⟩
  have hsz : s'.size = t.size + r.length := by rw [← bytesOf_len, hr, List.length_append, bytesOf_len]
  unfold inText
  rw [hi]
  simp only [if_true]
  rw [if_neg (by omega), Int.toNat_natCast]
  have : s'.extract 0 t.size = t := by
    apply bytesOf_inj
    rw [bytesOf_extract, hr, ← bytesOf_len t, List.take_left]
    rfl
  rw [this]
theorem rd_seq {α : Type} (f : ByteArray → α × ByteArray × Int) (enc : α → List Int) (xs : List α) (hf : ∀ x ∈ xs, ∀ s r, bytesOf s = enc x ++ r → ∃ s', f s = (x, s', 0) ∧ bytesOf s' = r) :
    ∀ s r, bytesOf s = xs.flatMap enc ++ r → ∃ s', seqL f xs.length s = (xs, s', 0) ∧ bytesOf s' = r := by
  induction xs with
  | nil => intro s r h; exact ⟨s, rfl, by simpa using h⟩
  | cons x xs ih =>
    intro s r h
    rw [List.flatMap_cons, List.append_assoc] at h
    obtain ⟨s1, h1, hr1⟩ := hf x List.mem_cons_self s _ h
    obtain ⟨s2, h2, hr2⟩ := ih (fun y hy => hf y (List.mem_cons_of_mem _ hy)) s1 r hr1
    refine ⟨s2, ?_, hr2⟩
    simp only [List.length_cons, seqL, h1, if_true, h2]
theorem rd_textsN (most : Int) (xs : List ByteArray) (hx : ∀ x ∈ xs, x.size ≤ 65536) (hl : (xs.length : Int) ≤ most) (hl2 : xs.length ≤ 65536) (s : ByteArray) (r : List Int) (h : bytesOf s = textsL xs ++ r) : ∃ s', inTexts s 0 most = (xs, s', 0) ∧ bytesOf s' = r := by
  unfold textsL at h
  rw [List.append_assoc] at h
  obtain ⟨s1, h1, hr1⟩ := rd_size xs.length most (by omega) hl (by omega) s _ h
  obtain ⟨s2, h2, hr2⟩ := rd_seq (fun s => inText s 0) textL xs (fun x hm s r h => rd_text x (hx x hm) s r h) s1 r hr1
  refine ⟨s2, ?_, hr2⟩
  unfold inTexts inSeq
  rw [h1]
  simp only [if_true, Int.toNat_natCast]
  exact h2
end Go.Proofs.Ytnajmemcdipknaa.PK
namespace Go.Proofs.Ytnajmemcdipknaa.PK
open Go.RowKit Go.Proofs.YtnajmemcdipknaaW.PrintWords Go.Proofs.YtnajmemcdipknaaW.PrintLast Go.Proofs.YtnajmemcdipknaaW.PrintMore
set_option linter.unusedVariables false
set_option linter.unusedSimpArgs false
set_option maxRecDepth 100000
def letB (c : Int) : Bool := decide ((65 ≤ c ∧ c ≤ 90) ∨ (97 ≤ c ∧ c ≤ 122))
def inB (c : Int) : Bool := decide ((65 ≤ c ∧ c ≤ 90) ∨ (97 ≤ c ∧ c ≤ 122) ∨ (48 ≤ c ∧ c ≤ 57) ∨ c = 95 ∨ c = 45)
def nameOk (s : ByteArray) : Bool := decide (0 < s.size) && decide (s.size ≤ 32) && letB (bt s 0) && (bytesOf s).all inB
theorem letter_eq (c : Int) : PC.lex_letter.f c = some (letB c) := by
  unfold PC.lex_letter.f letB
  repeat' split
  all_goals (rw [Option.some.injEq, Bool.eq_iff_iff]; simp only [decide_eq_true_eq, beq_iff_eq, true_iff, Bool.false_eq_true, false_iff]; omega)
theorem inName_eq (c : Int) : PC.lex_inName.f c = some (inB c) := by
  unfold PC.lex_inName.f
  rw [letter_eq, Option.bind_some]
  unfold letB inB
  repeat' split
  all_goals (simp only [decide_eq_true_eq] at *; rw [Option.some.injEq, Bool.eq_iff_iff]; simp only [decide_eq_true_eq, beq_iff_eq, true_iff, Bool.false_eq_true, false_iff]; omega)
theorem drop_bt (s : ByteArray) (i : Nat) (h : i < s.size) : (bytesOf s).drop i = bt s (i : Int) :: (bytesOf s).drop (i + 1) := by
  have hl : i < (bytesOf s).length := by rw [bytesOf_len]; exact h
  rw [List.drop_eq_getElem_cons hl, bt_nat, List.getD_eq_getElem?_getD, List.getElem?_eq_getElem hl]
  rfl
theorem lex_l0 (s : ByteArray) (hs : s.size ≤ 9223372036854775807) (r : Nat) : ∀ (k : Nat) (i : Nat), i + r = s.size → r < k → PC.lex_Good.l0 k s s.size i = some (((bytesOf s).drop i).all inB) := by
  induction r with
  | zero =>
    intro k i h1 hk
    obtain ⟨k, rfl⟩ : ∃ j, k = j + 1 := ⟨k - 1, by omega⟩
    simp only [PC.lex_Good.l0]
    rw [if_neg (by omega), List.drop_of_length_le (by rw [bytesOf_len]; omega)]
    rfl
  | succ r ih =>
    intro k i h1 hk
    obtain ⟨k, rfl⟩ : ∃ j, k = j + 1 := ⟨k - 1, by omega⟩
    simp only [PC.lex_Good.l0]
    rw [if_pos (by omega), if_pos (by omega), if_pos (by omega), inName_eq, Option.bind_some, drop_bt s i (by omega), List.all_cons, w64 _ (by omega) (by omega)]
    cases inB (bt s i)
    · simp
    · have := ih k (i + 1) (by omega) (by omega)
      rw [show ((i : Int) + 1) = ((i + 1 : Nat) : Int) from rfl, if_pos rfl, this, Bool.true_and]
theorem lexGood_eq (s : ByteArray) (hs : s.size ≤ 9223372036854775807) (k : Nat) (hk : 40 ≤ k) : PC.lex_Good.f k s = some (nameOk s) := by
  obtain ⟨k, rfl⟩ : ∃ j, k = j + 1 := ⟨k - 1, by omega⟩
  unfold PC.lex_Good.f nameOk
  by_cases h0 : s.size = 0
  · rw [if_pos ((toList_nil_iff s).mpr h0)]
    simp [PC.lex_Good.j0, h0]
  · rw [if_neg (fun h => h0 ((toList_nil_iff s).mp h))]
    by_cases h1 : 32 < s.size
    · rw [if_pos (by omega)]
      have : decide (s.size ≤ 32) = false := by simp; omega
      simp [PC.lex_Good.j0, this]
    · rw [if_neg (by omega), if_pos (by omega), letter_eq, Option.bind_some]
      have e1 : decide (0 < s.size) = true := by simp; omega
      have e2 : decide (s.size ≤ 32) = true := by simp; omega
      rw [e1, e2]
      cases hl : letB (bt s 0)
      · simp [PC.lex_Good.j0]
      · have := lex_l0 s hs s.size k 0 (by omega) (by omega)
        simp only [PC.lex_Good.j0, Bool.not_true, Bool.false_eq_true, if_false]
        rw [show ((0 : Nat) : Int) = 0 from rfl, List.drop_zero] at this
        rw [this]
        simp
theorem cname_eq (s : ByteArray) (hs : s.size ≤ 9223372036854775807) (k : Nat) (hk : 40 ≤ k) : PC.command_name.f k s = some (decide (s.size = 0) || nameOk s) := by
  unfold PC.command_name.f
  by_cases h0 : s.size = 0
  · rw [if_pos ((toList_nil_iff s).mpr h0)]
    simp [h0]
  · rw [if_neg (fun h => h0 ((toList_nil_iff s).mp h)), lexGood_eq s hs k hk]
    simp [h0]
end Go.Proofs.Ytnajmemcdipknaa.PK
namespace Go.Proofs.Ytnajmemcdipknaa.PK
open Go.RowKit Go.Proofs.YtnajmemcdipknaaW.PrintWords Go.Proofs.YtnajmemcdipknaaW.PrintLast Go.Proofs.YtnajmemcdipknaaW.PrintMore
open Go.ChangeShapes Go.WideShapes
set_option linter.unusedVariables false
set_option linter.unusedSimpArgs false
set_option maxRecDepth 100000
def goodC (k : Int) (who nm ot tx : ByteArray) (wd : List ByteArray) (a b c d : Int) : Bool :=
  decide (1 ≤ k) && decide (k ≤ 18) && nameOk who && (decide (nm.size = 0) || nameOk nm) && (decide (ot.size = 0) || nameOk ot) && decide (tx.size ≤ 65536) && decide (wd.length ≤ 64) && (!(wd.any fun s => decide (16 < s.size))) && fitsN a && fitsN b && fitsN c && fitsN d
set_option maxHeartbeats 6400000 in
theorem cGood_calls (k : Int) (who nm ot tx : ByteArray) (A : Option Addr) (cap : Nat) (wd : List ByteArray) (a b c d : Int) (w : World) (hs1 : who.size ≤ 9223372036854775807) (hs2 : nm.size ≤ 9223372036854775807) (hs3 : ot.size ≤ 9223372036854775807) (hr : Kd.C Kd.string w A wd.length wd) (hc : wd.length ≤ cap) :
    Calls Try.prog 15 #[.agg #[.int .i64 k, .string who, .string nm, .string ot, .string tx, .slice A wd.length cap, .int .i64 a, .int .i64 b, .int .i64 c, .int .i64 d]] w fun e w' => e = .returned (.bool (goodC k who nm ot tx wd a b c d)) ∧ Below w.heap.size w w' := by
  have hu := Try.underlying28
  have HR := Aside0.mk hr
  have HC := Aside0.mk hc
  clear hr hc
  have HB := Aside0.mk (Below.refl w.heap.size w)
  by_cases g1 : 1 ≤ k
  rotate_left
  · have e1a : decide (k < 1) = true := by simp; omega
    have gf : decide (1 ≤ k) = false := by simp; omega
    have GOOD : Aside0 (goodC k who nm ot tx wd a b c d = false) := ⟨by simp only [goodC, gf, Bool.and_false, Bool.false_and]⟩
    clear gf
    clear g1
    go_enter Try.func15, Try.ntmps15
    go_wp2_with (first
      | (go_at_call 44; (with_reducible refine (PC.lex_Good.calls 40 who _ _ (lexGood_eq who hs1 40 (by omega))).mono ?_); rintro e w' ⟨rfl, ⟨nd, rfl⟩⟩; rw [H3.out])
      | (go_at_call 45; first
          | ((with_reducible refine (PC.command_name.calls 40 nm _ _ (cname_eq nm hs2 40 (by omega))).mono ?_); rintro e w' ⟨rfl, ⟨nd, rfl⟩⟩; rw [H4.out])
          | ((with_reducible refine (PC.command_name.calls 40 ot _ _ (cname_eq ot hs3 40 (by omega))).mono ?_); rintro e w' ⟨rfl, ⟨nd, rfl⟩⟩; rw [H5.out])))
    go_ret
    exact ⟨by rw [GOOD.out]; rfl, by repeat (first | (with_reducible first | exact HB.out | apply below_alloc | apply pw_below_drewN | apply below_drew1) | exact HB.out)⟩
  have e1a : decide (k < 1) = false := by simp; omega
  by_cases g2 : k ≤ 18
  rotate_left
  · have e2a : decide (18 < k) = true := by simp; omega
    have gf : decide (k ≤ 18) = false := by simp; omega
    have GOOD : Aside0 (goodC k who nm ot tx wd a b c d = false) := ⟨by simp only [goodC, gf, Bool.and_false, Bool.false_and]⟩
    clear gf
    clear g1 g2
    go_enter Try.func15, Try.ntmps15
    go_wp2_with (first
      | (go_at_call 44; (with_reducible refine (PC.lex_Good.calls 40 who _ _ (lexGood_eq who hs1 40 (by omega))).mono ?_); rintro e w' ⟨rfl, ⟨nd, rfl⟩⟩; rw [H3.out])
      | (go_at_call 45; first
          | ((with_reducible refine (PC.command_name.calls 40 nm _ _ (cname_eq nm hs2 40 (by omega))).mono ?_); rintro e w' ⟨rfl, ⟨nd, rfl⟩⟩; rw [H4.out])
          | ((with_reducible refine (PC.command_name.calls 40 ot _ _ (cname_eq ot hs3 40 (by omega))).mono ?_); rintro e w' ⟨rfl, ⟨nd, rfl⟩⟩; rw [H5.out])))
    go_ret
    exact ⟨by rw [GOOD.out]; rfl, by repeat (first | (with_reducible first | exact HB.out | apply below_alloc | apply pw_below_drewN | apply below_drew1) | exact HB.out)⟩
  have e2a : decide (18 < k) = false := by simp; omega
  by_cases g3 : nameOk who = true
  rotate_left
  · have H3 := Aside0.mk (Bool.eq_false_iff.mpr g3)
    have gf := H3.out
    have GOOD : Aside0 (goodC k who nm ot tx wd a b c d = false) := ⟨by simp only [goodC, gf, Bool.and_false, Bool.false_and]⟩
    clear gf
    clear g1 g2 g3
    go_enter Try.func15, Try.ntmps15
    go_wp2_with (first
      | (go_at_call 44; (with_reducible refine (PC.lex_Good.calls 40 who _ _ (lexGood_eq who hs1 40 (by omega))).mono ?_); rintro e w' ⟨rfl, ⟨nd, rfl⟩⟩; rw [H3.out])
      | (go_at_call 45; first
          | ((with_reducible refine (PC.command_name.calls 40 nm _ _ (cname_eq nm hs2 40 (by omega))).mono ?_); rintro e w' ⟨rfl, ⟨nd, rfl⟩⟩; rw [H4.out])
          | ((with_reducible refine (PC.command_name.calls 40 ot _ _ (cname_eq ot hs3 40 (by omega))).mono ?_); rintro e w' ⟨rfl, ⟨nd, rfl⟩⟩; rw [H5.out])))
    go_ret
    exact ⟨by rw [GOOD.out]; rfl, by repeat (first | (with_reducible first | exact HB.out | apply below_alloc | apply pw_below_drewN | apply below_drew1) | exact HB.out)⟩
  have H3 := Aside0.mk g3
  by_cases g4 : (decide (nm.size = 0) || nameOk nm) = true
  rotate_left
  · have H4 := Aside0.mk (Bool.eq_false_iff.mpr g4)
    have gf := H4.out
    have GOOD : Aside0 (goodC k who nm ot tx wd a b c d = false) := ⟨by simp only [goodC, gf, Bool.and_false, Bool.false_and]⟩
    clear gf
    clear g1 g2 g3 g4
    go_enter Try.func15, Try.ntmps15
    go_wp2_with (first
      | (go_at_call 44; (with_reducible refine (PC.lex_Good.calls 40 who _ _ (lexGood_eq who hs1 40 (by omega))).mono ?_); rintro e w' ⟨rfl, ⟨nd, rfl⟩⟩; rw [H3.out])
      | (go_at_call 45; first
          | ((with_reducible refine (PC.command_name.calls 40 nm _ _ (cname_eq nm hs2 40 (by omega))).mono ?_); rintro e w' ⟨rfl, ⟨nd, rfl⟩⟩; rw [H4.out])
          | ((with_reducible refine (PC.command_name.calls 40 ot _ _ (cname_eq ot hs3 40 (by omega))).mono ?_); rintro e w' ⟨rfl, ⟨nd, rfl⟩⟩; rw [H5.out])))
    go_ret
    exact ⟨by rw [GOOD.out]; rfl, by repeat (first | (with_reducible first | exact HB.out | apply below_alloc | apply pw_below_drewN | apply below_drew1) | exact HB.out)⟩
  have H4 := Aside0.mk g4
  by_cases g5 : (decide (ot.size = 0) || nameOk ot) = true
  rotate_left
  · have H5 := Aside0.mk (Bool.eq_false_iff.mpr g5)
    have gf := H5.out
    have GOOD : Aside0 (goodC k who nm ot tx wd a b c d = false) := ⟨by simp only [goodC, gf, Bool.and_false, Bool.false_and]⟩
    clear gf
    clear g1 g2 g3 g4 g5
    go_enter Try.func15, Try.ntmps15
    go_wp2_with (first
      | (go_at_call 44; (with_reducible refine (PC.lex_Good.calls 40 who _ _ (lexGood_eq who hs1 40 (by omega))).mono ?_); rintro e w' ⟨rfl, ⟨nd, rfl⟩⟩; rw [H3.out])
      | (go_at_call 45; first
          | ((with_reducible refine (PC.command_name.calls 40 nm _ _ (cname_eq nm hs2 40 (by omega))).mono ?_); rintro e w' ⟨rfl, ⟨nd, rfl⟩⟩; rw [H4.out])
          | ((with_reducible refine (PC.command_name.calls 40 ot _ _ (cname_eq ot hs3 40 (by omega))).mono ?_); rintro e w' ⟨rfl, ⟨nd, rfl⟩⟩; rw [H5.out])))
    go_ret
    exact ⟨by rw [GOOD.out]; rfl, by repeat (first | (with_reducible first | exact HB.out | apply below_alloc | apply pw_below_drewN | apply below_drew1) | exact HB.out)⟩
  have H5 := Aside0.mk g5
  by_cases g6 : tx.size ≤ 65536
  rotate_left
  · have e6a : decide ((65536 : Int) < (tx.size : Int)) = true := by simp; omega
    have e6b : decide (65536 < tx.size) = true := by simp; omega
    have gf : decide (tx.size ≤ 65536) = false := by simp; omega
    have GOOD : Aside0 (goodC k who nm ot tx wd a b c d = false) := ⟨by simp only [goodC, gf, Bool.and_false, Bool.false_and]⟩
    clear gf
    clear g1 g2 g3 g4 g5 g6
    go_enter Try.func15, Try.ntmps15
    go_wp2_with (first
      | (go_at_call 44; (with_reducible refine (PC.lex_Good.calls 40 who _ _ (lexGood_eq who hs1 40 (by omega))).mono ?_); rintro e w' ⟨rfl, ⟨nd, rfl⟩⟩; rw [H3.out])
      | (go_at_call 45; first
          | ((with_reducible refine (PC.command_name.calls 40 nm _ _ (cname_eq nm hs2 40 (by omega))).mono ?_); rintro e w' ⟨rfl, ⟨nd, rfl⟩⟩; rw [H4.out])
          | ((with_reducible refine (PC.command_name.calls 40 ot _ _ (cname_eq ot hs3 40 (by omega))).mono ?_); rintro e w' ⟨rfl, ⟨nd, rfl⟩⟩; rw [H5.out])))
    go_ret
    exact ⟨by rw [GOOD.out]; rfl, by repeat (first | (with_reducible first | exact HB.out | apply below_alloc | apply pw_below_drewN | apply below_drew1) | exact HB.out)⟩
  have e6a : decide ((65536 : Int) < (tx.size : Int)) = false := by simp; omega
  have e6b : decide (65536 < tx.size) = false := by simp; omega
  by_cases g7 : wd.length ≤ 64
  rotate_left
  · have e7a : decide ((64 : Int) < (wd.length : Int)) = true := by simp; omega
    have e7b : decide (64 < wd.length) = true := by simp; omega
    have gf : decide (wd.length ≤ 64) = false := by simp; omega
    have GOOD : Aside0 (goodC k who nm ot tx wd a b c d = false) := ⟨by simp only [goodC, gf, Bool.and_false, Bool.false_and]⟩
    clear gf
    clear g1 g2 g3 g4 g5 g6 g7
    go_enter Try.func15, Try.ntmps15
    go_wp2_with (first
      | (go_at_call 44; (with_reducible refine (PC.lex_Good.calls 40 who _ _ (lexGood_eq who hs1 40 (by omega))).mono ?_); rintro e w' ⟨rfl, ⟨nd, rfl⟩⟩; rw [H3.out])
      | (go_at_call 45; first
          | ((with_reducible refine (PC.command_name.calls 40 nm _ _ (cname_eq nm hs2 40 (by omega))).mono ?_); rintro e w' ⟨rfl, ⟨nd, rfl⟩⟩; rw [H4.out])
          | ((with_reducible refine (PC.command_name.calls 40 ot _ _ (cname_eq ot hs3 40 (by omega))).mono ?_); rintro e w' ⟨rfl, ⟨nd, rfl⟩⟩; rw [H5.out])))
    go_ret
    exact ⟨by rw [GOOD.out]; rfl, by repeat (first | (with_reducible first | exact HB.out | apply below_alloc | apply pw_below_drewN | apply below_drew1) | exact HB.out)⟩
  have e7a : decide ((64 : Int) < (wd.length : Int)) = false := by simp; omega
  have e7b : decide (64 < wd.length) = false := by simp; omega
  obtain ⟨wb, hwb⟩ : ∃ wb, (wd.any fun s => decide (16 < s.size)) = wb := ⟨_, rfl⟩
  have HW := Aside0.mk hwb
  cases wb
  rotate_left
  · have GOOD : Aside0 (goodC k who nm ot tx wd a b c d = false) := ⟨by simp only [goodC, hwb, Bool.not_true, Bool.and_false, Bool.false_and]⟩
    clear hwb g1 g2 g3 g4 g5 g6 g7
    go_enter Try.func15, Try.ntmps15
    go_wp2_with (first
      | (go_at_call 46; refine (contains_calls 47 good1_enter (fun s => decide (16 < s.size)) good1_calls A cap wd _ (Kd.C_below HR.out (by repeat (first | (with_reducible first | exact HB.out | apply below_alloc | apply pw_below_drewN | apply below_drew1) | exact HB.out)))).mono ?_; rintro e w' ⟨rfl, rfl⟩; rw [HW.out])
      | (first
  | (go_at_call 44; (with_reducible refine (PC.lex_Good.calls 40 who _ _ (lexGood_eq who hs1 40 (by omega))).mono ?_); rintro e w' ⟨rfl, ⟨nd, rfl⟩⟩; rw [H3.out])
  | (go_at_call 45; first
      | ((with_reducible refine (PC.command_name.calls 40 nm _ _ (cname_eq nm hs2 40 (by omega))).mono ?_); rintro e w' ⟨rfl, ⟨nd, rfl⟩⟩; rw [H4.out])
      | ((with_reducible refine (PC.command_name.calls 40 ot _ _ (cname_eq ot hs3 40 (by omega))).mono ?_); rintro e w' ⟨rfl, ⟨nd, rfl⟩⟩; rw [H5.out]))))
    go_ret
    exact ⟨by rw [GOOD.out]; rfl, by repeat (first | (with_reducible first | exact HB.out | apply below_alloc | apply pw_below_drewN | apply below_drew1) | exact HB.out)⟩
  have GOOD : Aside0 (goodC k who nm ot tx wd a b c d = (fitsN a && fitsN b && fitsN c && fitsN d)) := ⟨by simp only [goodC, hwb, g1, g2, g3, g4, g5, g6, g7, decide_true, Bool.true_and, Bool.not_false]⟩
  clear hwb g1 g2 g3 g4 g5 g6 g7
  go_enter Try.func15, Try.ntmps15
  go_wp2_with (first
    | (go_at_call 46; refine (contains_calls 47 good1_enter (fun s => decide (16 < s.size)) good1_calls A cap wd _ (Kd.C_below HR.out (by repeat (first | (with_reducible first | exact HB.out | apply below_alloc | apply pw_below_drewN | apply below_drew1) | exact HB.out)))).mono ?_; rintro e w' ⟨rfl, rfl⟩; rw [HW.out])
    | (first
  | (go_at_call 44; (with_reducible refine (PC.lex_Good.calls 40 who _ _ (lexGood_eq who hs1 40 (by omega))).mono ?_); rintro e w' ⟨rfl, ⟨nd, rfl⟩⟩; rw [H3.out])
  | (go_at_call 45; first
      | ((with_reducible refine (PC.command_name.calls 40 nm _ _ (cname_eq nm hs2 40 (by omega))).mono ?_); rintro e w' ⟨rfl, ⟨nd, rfl⟩⟩; rw [H4.out])
      | ((with_reducible refine (PC.command_name.calls 40 ot _ _ (cname_eq ot hs3 40 (by omega))).mono ?_); rintro e w' ⟨rfl, ⟨nd, rfl⟩⟩; rw [H5.out]))))
  go_loopw [4, 48] (fun _ i wr => ∃ j : Nat, j ≤ 4 ∧ i = .int .i64 j ∧ Aside0 ((0 < j → fitsN a = true) ∧ (1 < j → fitsN b = true) ∧ (2 < j → fitsN c = true) ∧ (3 < j → fitsN d = true)) ∧ Aside0 (Below w.heap.size w wr)) (fun _ i _ => 4 - (intOf i).toNat)
  case atStart => exact ⟨0, Nat.zero_le _, rfl, ⟨fun h => absurd h (by omega), fun h => absurd h (by omega), fun h => absurd h (by omega), fun h => absurd h (by omega)⟩, ⟨by repeat (first | (with_reducible first | exact HB.out | apply below_alloc | apply pw_below_drewN | apply below_drew1) | exact HB.out)⟩⟩
  case round =>
    have ix0 : ∀ w : World, (Instr.index 23 (.agg #[.int .i64 a, .int .i64 b, .int .i64 c, .int .i64 d]) (.int .i64 0)).run Try.prog w = .ok (.int .i64 a) w := fun _ => by kernel_rfl
    have ix1 : ∀ w : World, (Instr.index 23 (.agg #[.int .i64 a, .int .i64 b, .int .i64 c, .int .i64 d]) (.int .i64 1)).run Try.prog w = .ok (.int .i64 b) w := fun _ => by kernel_rfl
    have ix2 : ∀ w : World, (Instr.index 23 (.agg #[.int .i64 a, .int .i64 b, .int .i64 c, .int .i64 d]) (.int .i64 2)).run Try.prog w = .ok (.int .i64 c) w := fun _ => by kernel_rfl
    have ix3 : ∀ w : World, (Instr.index 23 (.agg #[.int .i64 a, .int .i64 b, .int .i64 c, .int .i64 d]) (.int .i64 3)).run Try.prog w = .ok (.int .i64 d) w := fun _ => by kernel_rfl
    obtain ⟨j, hj, rfl, HF, HB2⟩ := hrel
    rcases (show j = 0 ∨ j = 1 ∨ j = 2 ∨ j = 3 ∨ j = 4 from by omega) with rfl | rfl | rfl | rfl | rfl
    · by_cases hlo : -9007199254740992 ≤ a
      · have hlo' : decide (a < -9007199254740992) = false := by simp; omega
        by_cases hhi : a ≤ 9007199254740992
        · have hhi' : decide (9007199254740992 < a) = false := by simp; omega
          go_wp2_with fail
          go_roundw
          case rel => exact ⟨1, by omega, rfl, ⟨fun _ => fits_in hlo hhi, fun h => absurd h (by omega), fun h => absurd h (by omega), fun h => absurd h (by omega)⟩, HB2⟩
          case measure => simp [intOf]
        · have hhi' : decide (9007199254740992 < a) = true := by simp; omega
          go_wp2
          go_ret
          exact ⟨by rw [GOOD.out, fits_hi (n := a) (by omega)]; simp, HB2.out⟩
      · have hlo' : decide (a < -9007199254740992) = true := by simp; omega
        go_wp2
        go_ret
        exact ⟨by rw [GOOD.out, fits_lo (n := a) (by omega)]; simp, HB2.out⟩
    · by_cases hlo : -9007199254740992 ≤ b
      · have hlo' : decide (b < -9007199254740992) = false := by simp; omega
        by_cases hhi : b ≤ 9007199254740992
        · have hhi' : decide (9007199254740992 < b) = false := by simp; omega
          go_wp2_with fail
          go_roundw
          case rel => exact ⟨2, by omega, rfl, ⟨fun _ => HF.out.1 (by omega), fun _ => fits_in hlo hhi, fun h => absurd h (by omega), fun h => absurd h (by omega)⟩, HB2⟩
          case measure => simp [intOf]
        · have hhi' : decide (9007199254740992 < b) = true := by simp; omega
          go_wp2
          go_ret
          exact ⟨by rw [GOOD.out, HF.out.1 (by omega), fits_hi (n := b) (by omega)]; simp, HB2.out⟩
      · have hlo' : decide (b < -9007199254740992) = true := by simp; omega
        go_wp2
        go_ret
        exact ⟨by rw [GOOD.out, HF.out.1 (by omega), fits_lo (n := b) (by omega)]; simp, HB2.out⟩
    · by_cases hlo : -9007199254740992 ≤ c
      · have hlo' : decide (c < -9007199254740992) = false := by simp; omega
        by_cases hhi : c ≤ 9007199254740992
        · have hhi' : decide (9007199254740992 < c) = false := by simp; omega
          go_wp2_with fail
          go_roundw
          case rel => exact ⟨3, by omega, rfl, ⟨fun _ => HF.out.1 (by omega), fun _ => HF.out.2.1 (by omega), fun _ => fits_in hlo hhi, fun h => absurd h (by omega)⟩, HB2⟩
          case measure => simp [intOf]
        · have hhi' : decide (9007199254740992 < c) = true := by simp; omega
          go_wp2
          go_ret
          exact ⟨by rw [GOOD.out, HF.out.1 (by omega), HF.out.2.1 (by omega), fits_hi (n := c) (by omega)]; simp, HB2.out⟩
      · have hlo' : decide (c < -9007199254740992) = true := by simp; omega
        go_wp2
        go_ret
        exact ⟨by rw [GOOD.out, HF.out.1 (by omega), HF.out.2.1 (by omega), fits_lo (n := c) (by omega)]; simp, HB2.out⟩
    · by_cases hlo : -9007199254740992 ≤ d
      · have hlo' : decide (d < -9007199254740992) = false := by simp; omega
        by_cases hhi : d ≤ 9007199254740992
        · have hhi' : decide (9007199254740992 < d) = false := by simp; omega
          go_wp2_with fail
          go_roundw
          case rel => exact ⟨4, by omega, rfl, ⟨fun _ => HF.out.1 (by omega), fun _ => HF.out.2.1 (by omega), fun _ => HF.out.2.2.1 (by omega), fun _ => fits_in hlo hhi⟩, HB2⟩
          case measure => simp [intOf]
        · have hhi' : decide (9007199254740992 < d) = true := by simp; omega
          go_wp2
          go_ret
          exact ⟨by rw [GOOD.out, HF.out.1 (by omega), HF.out.2.1 (by omega), HF.out.2.2.1 (by omega), fits_hi (n := d) (by omega)]; simp, HB2.out⟩
      · have hlo' : decide (d < -9007199254740992) = true := by simp; omega
        go_wp2
        go_ret
        exact ⟨by rw [GOOD.out, HF.out.1 (by omega), HF.out.2.1 (by omega), HF.out.2.2.1 (by omega), fits_lo (n := d) (by omega)]; simp, HB2.out⟩
    · go_wp2
      go_ret
      exact ⟨by rw [GOOD.out, HF.out.1 (by omega), HF.out.2.1 (by omega), HF.out.2.2.1 (by omega), HF.out.2.2.2 (by omega)]; rfl, HB2.out⟩
end Go.Proofs.Ytnajmemcdipknaa.PK
namespace Go.Proofs.Ytnajmemcdipknaa.PK
open Go.RowKit Go.Proofs.YtnajmemcdipknaaW.PrintWords Go.Proofs.YtnajmemcdipknaaW.PrintLast Go.Proofs.YtnajmemcdipknaaW.PrintMore
open Go.ChangeShapes Go.WideShapes
set_option linter.unusedVariables false
set_option linter.unusedSimpArgs false
set_option maxRecDepth 100000
def cmdL (k : Int) (who nm ot tx : ByteArray) (wd : List ByteArray) (a b c d : Int) : List Int :=
  putL k ++ textL who ++ textL nm ++ textL ot ++ textL tx ++ textsL wd ++ putL a ++ putL b ++ putL c ++ putL d
def putC (k : Int) (who nm ot tx : ByteArray) (wd : List ByteArray) (a b c d : Int) : ByteArray := if goodC k who nm ot tx wd a b c d then strOfNums (cmdL k who nm ot tx wd a b c d) else ⟨#[]⟩
theorem good_facts {k : Int} {who nm ot tx : ByteArray} {wd : List ByteArray} {a b c d : Int} (h : goodC k who nm ot tx wd a b c d = true) :
    (1 ≤ k ∧ k ≤ 18) ∧ who.size ≤ 32 ∧ nm.size ≤ 32 ∧ ot.size ≤ 32 ∧ tx.size ≤ 65536 ∧ wd.length ≤ 64 ∧ (∀ s ∈ wd, s.size ≤ 16) ∧ fitsN a = true ∧ fitsN b = true ∧ fitsN c = true ∧ fitsN d = true := by
  unfold goodC nameOk at h
  simp only [Bool.and_eq_true, Bool.or_eq_true, decide_eq_true_eq, Bool.not_eq_true', List.any_eq_false, Nat.not_lt] at h
  obtain ⟨⟨⟨⟨⟨⟨⟨⟨⟨⟨⟨h1, h2⟩, h3⟩, h4⟩, h5⟩, h6⟩, h7⟩, h8⟩, ha⟩, hb⟩, hc⟩, hd⟩ := h
  exact ⟨⟨h1, h2⟩, h3.1.1.2, by rcases h4 with h | h <;> omega, by rcases h5 with h | h <;> omega, h6, h7, fun s hs => h8 s hs, ha, hb, hc, hd⟩
theorem ok_texts64 {L T : Nat} (hL : L ≤ 400000) (hT : T ≤ 64) : ∀ m, m ≤ L + (65544 * T + 70000) → m ≤ 140737488355328 := by
  intro m hm
  have hX : 65544 * T ≤ 4194816 := by omega
  have : m ≤ 400000 + (4194816 + 70000) := Nat.le_trans hm (Nat.add_le_add hL (Nat.add_le_add_right hX _))
  exact Nat.le_trans this (by decide)
theorem textsL_len (xs : List ByteArray) : (textsL xs).length ≤ 8 + 65544 * xs.length := by
  have h1 := putL_len xs.length
  have h2 := flat_le textL 65544 textL_len xs
  unfold textsL
  rw [List.length_append]
  omega
theorem badTexts_small {xs : List ByteArray} (h : xs.length ≤ 64) (h2 : ∀ s ∈ xs, s.size ≤ 16) : badTexts xs = false := by
  unfold badTexts
  rw [show decide ((xs.length : Int) ≤ 65536) = true by simp; omega, Bool.not_true, Bool.false_or, List.any_eq_false]
  intro s hs
  have := h2 s hs
  simp; omega
set_option maxHeartbeats 6400000 in
theorem cPut_calls (k : Int) (who nm ot tx : ByteArray) (A : Option Addr) (cap : Nat) (wd : List ByteArray) (a b c d : Int) (w : World) (hs1 : who.size ≤ 9223372036854775807) (hs2 : nm.size ≤ 9223372036854775807) (hs3 : ot.size ≤ 9223372036854775807) (hr : Kd.C Kd.string w A wd.length wd) (hc : wd.length ≤ cap) :
    Calls Try.prog 14 #[.agg #[.int .i64 k, .string who, .string nm, .string ot, .string tx, .slice A wd.length cap, .int .i64 a, .int .i64 b, .int .i64 c, .int .i64 d]] w fun e w' => e = .returned (.string (putC k who nm ot tx wd a b c d)) ∧ Below w.heap.size w w' := by
  have hu := Try.underlying28
  have HR := Aside0.mk hr
  have HC := Aside0.mk hc
  clear hr hc
  have hnew := heap_alloc_new w (.cells #[.int .i64 k, .string who, .string nm, .string ot, .string tx, .slice A wd.length cap, .int .i64 a, .int .i64 b, .int .i64 c, .int .i64 d] 28)
  have HB1 := Aside0.mk (below_alloc (Below.refl w.heap.size w) (.cells #[.int .i64 k, .string who, .string nm, .string ot, .string tx, .slice A wd.length cap, .int .i64 a, .int .i64 b, .int .i64 c, .int .i64 d] 28))
  have hs1' : (w.alloc (.cells #[.int .i64 k, .string who, .string nm, .string ot, .string tx, .slice A wd.length cap, .int .i64 a, .int .i64 b, .int .i64 c, .int .i64 d] 28)).heap.size = w.heap.size + 1 := by simp
  have BX1 := Aside0.mk hnew
  have HS1 := Aside0.mk hs1'
  clear hnew hs1'
  obtain ⟨gd, hgd⟩ : ∃ gd, goodC k who nm ot tx wd a b c d = gd := ⟨_, rfl⟩
  have HG := Aside0.mk hgd
  cases gd
  · have PC : Aside0 (putC k who nm ot tx wd a b c d = ⟨#[]⟩) := ⟨by unfold putC; rw [hgd]; rfl⟩
    clear hgd
    go_enter Try.func14, Try.ntmps14
    go_wp2_with fail
    refine (cGood_calls k who nm ot tx A cap wd a b c d _ hs1 hs2 hs3 (Kd.C_below HR.out HB1.out) HC.out).mono ?_
    rintro e w2 ⟨rfl, hb2⟩
    have HB2 := Aside0.mk (below_then HB1.out HB1.out.size hb2)
    clear hb2
    rw [HG.out]
    go_wp2
    go_ret
    exact ⟨by rw [PC.out]; rfl, HB2.out⟩
  · have PC : Aside0 (putC k who nm ot tx wd a b c d = strOfNums (cmdL k who nm ot tx wd a b c d)) := ⟨by unfold putC; rw [hgd]; rfl⟩
    obtain ⟨⟨f1, f2⟩, f3, f4, f5, f6, f7, f8, fa, fb, fc, fd⟩ := good_facts hgd
    clear hgd
    have FKk : Aside0 ((false || !fitsN k) = false) := ⟨by rw [fits_in (by omega) (by omega)]; rfl⟩
    have FKwho : Aside0 ((false || decide (65536 < who.size)) = false) := ⟨by simp; omega⟩
    have FKnm : Aside0 ((false || decide (65536 < nm.size)) = false) := ⟨by simp; omega⟩
    have FKot : Aside0 ((false || decide (65536 < ot.size)) = false) := ⟨by simp; omega⟩
    have FKtx : Aside0 ((false || decide (65536 < tx.size)) = false) := ⟨by simp; omega⟩
    have FKwd : Aside0 ((false || badTexts wd) = false) := ⟨by rw [badTexts_small f7 f8]; rfl⟩
    have FKa : Aside0 ((false || !fitsN a) = false) := ⟨by rw [fa]; rfl⟩
    have FKb : Aside0 ((false || !fitsN b) = false) := ⟨by rw [fb]; rfl⟩
    have FKc : Aside0 ((false || !fitsN c) = false) := ⟨by rw [fc]; rfl⟩
    have FKd : Aside0 ((false || !fitsN d) = false) := ⟨by rw [fd]; rfl⟩
    have LN : Aside0 ((putL k).length ≤ 8 ∧ (textL who).length ≤ 65544 ∧ (textL nm).length ≤ 65544 ∧ (textL ot).length ≤ 65544 ∧ (textL tx).length ≤ 65544 ∧ (putL a).length ≤ 8 ∧ (putL b).length ≤ 8 ∧ (putL c).length ≤ 8 ∧ (putL d).length ≤ 8) :=
      ⟨putL_len k, textL_len who, textL_len nm, textL_len ot, textL_len tx, putL_len a, putL_len b, putL_len c, putL_len d⟩
    have LT : Aside0 ((textsL wd).length ≤ 5000000) := ⟨by have := textsL_len wd; omega⟩
    clear f1 f2 f3 f4 f5 f6 f8 fa fb fc fd
    go_enter Try.func14, Try.ntmps14
    go_wp2_with fail
    refine (cGood_calls k who nm ot tx A cap wd a b c d _ hs1 hs2 hs3 (Kd.C_below HR.out HB1.out) HC.out).mono ?_
    rintro e w2 ⟨rfl, hb2⟩
    have HB2 := Aside0.mk (below_then HB1.out HB1.out.size hb2)
    have BX2 := Aside0.mk ((hb2.block w.heap.size (by rw [HS1.out]; omega)).trans BX1.out)
    have hz2 : w.heap.size < w2.heap.size := by have := hb2.size; rw [HS1.out] at this; omega
    clear hb2 BX1 HS1
    have hz : w2.cell? ⟨w.heap.size, 0, none⟩ = some (.int .i64 k) := (blk_cell BX2.out 0).trans rfl
    rw [HG.out]
    go_wp2_with fail
    clear hz
    obtain ⟨base, hba⟩ : ∃ base, base = w2.heap.size + 1 := ⟨_, rfl⟩
    obtain ⟨w3, hw3⟩ : ∃ w3, w3 = w2.alloc (.cells #[.slice none 0 0, .bool false] 97) := ⟨_, rfl⟩
    have hst : OutI w3 w2.heap.size 0 97 #[.bool false, .bool false] base w3 [] false := ⟨OutB.new _ _ _ _ (by decide) (by rw [hw3]; exact heap_alloc_new w2 _), OutK.refl _ _ _, by rw [hba, hw3]; simp⟩
    have HB3 := Aside0.mk (show Below w.heap.size w w3 from by rw [hw3]; exact below_step HB2.out (below_alloc (Below.refl _ _) _))
    have BX3 := Aside0.mk (show w3.heap[w.heap.size]? = some _ from by rw [hw3]; exact ((below_alloc (Below.refl w2.heap.size w2) (.cells #[.slice none 0 0, .bool false] 97)).block w.heap.size hz2).trans BX2.out)
    simp only [← hw3]
    have HI3 := Aside0.mk hst
    have BX := BX3
    clear hst hw3 BX2
    with_reducible refine ((takes_out w3 w2.heap.size 0 97 #[.bool false, .bool false] base).int w3 (([] : List Int)) false k HI3.out (by simp only [List.length_append, List.length_nil]; have := LN.out; omega)).mono ?_
    rintro e w4 ⟨rfl, h⟩
    rw [FKk.out] at h
    have HI4 := Aside0.mk h
    have BX' := Aside0.mk ((h.2.1.old w.heap.size (by omega) (by omega)).trans BX3.out)
    clear h BX HI3
    have BX := BX'
    clear BX'
    have hz : w4.cell? ⟨w.heap.size, 1, none⟩ = some (.string who) := (blk_cell BX.out 1).trans rfl
    go_wp2_with fail
    with_reducible refine ((takes_out w3 w2.heap.size 0 97 #[.bool false, .bool false] base).text w4 ([] ++ putL k) false who HI4.out (by simp only [List.length_append, List.length_nil]; have := LN.out; omega)).mono ?_
    rintro e w5 ⟨rfl, h⟩
    rw [FKwho.out] at h
    have HI5 := Aside0.mk h
    have BX' := Aside0.mk ((h.2.1.old w.heap.size (by omega) (by omega)).trans BX3.out)
    clear h hz BX HI4
    have BX := BX'
    clear BX'
    have hz : w5.cell? ⟨w.heap.size, 2, none⟩ = some (.string nm) := (blk_cell BX.out 2).trans rfl
    go_wp2_with fail
    with_reducible refine ((takes_out w3 w2.heap.size 0 97 #[.bool false, .bool false] base).text w5 ([] ++ putL k ++ textL who) false nm HI5.out (by simp only [List.length_append, List.length_nil]; have := LN.out; omega)).mono ?_
    rintro e w6 ⟨rfl, h⟩
    rw [FKnm.out] at h
    have HI6 := Aside0.mk h
    have BX' := Aside0.mk ((h.2.1.old w.heap.size (by omega) (by omega)).trans BX3.out)
    clear h hz BX HI5
    have BX := BX'
    clear BX'
    have hz : w6.cell? ⟨w.heap.size, 3, none⟩ = some (.string ot) := (blk_cell BX.out 3).trans rfl
    go_wp2_with fail
    with_reducible refine ((takes_out w3 w2.heap.size 0 97 #[.bool false, .bool false] base).text w6 ([] ++ putL k ++ textL who ++ textL nm) false ot HI6.out (by simp only [List.length_append, List.length_nil]; have := LN.out; omega)).mono ?_
    rintro e w7 ⟨rfl, h⟩
    rw [FKot.out] at h
    have HI7 := Aside0.mk h
    have BX' := Aside0.mk ((h.2.1.old w.heap.size (by omega) (by omega)).trans BX3.out)
    clear h hz BX HI6
    have BX := BX'
    clear BX'
    have hz : w7.cell? ⟨w.heap.size, 4, none⟩ = some (.string tx) := (blk_cell BX.out 4).trans rfl
    go_wp2_with fail
    with_reducible refine ((takes_out w3 w2.heap.size 0 97 #[.bool false, .bool false] base).text w7 ([] ++ putL k ++ textL who ++ textL nm ++ textL ot) false tx HI7.out (by simp only [List.length_append, List.length_nil]; have := LN.out; omega)).mono ?_
    rintro e w8 ⟨rfl, h⟩
    rw [FKtx.out] at h
    have HI8 := Aside0.mk h
    have BX' := Aside0.mk ((h.2.1.old w.heap.size (by omega) (by omega)).trans BX3.out)
    clear h hz BX HI7
    have BX := BX'
    clear BX'
    have hz : w8.cell? ⟨w.heap.size, 5, none⟩ = some (.slice A wd.length cap) := (blk_cell BX.out 5).trans rfl
    go_wp2_with fail
    refine (out_texts (takes_out w3 w2.heap.size 0 97 #[.bool false, .bool false] base) A cap wd ([] ++ putL k ++ textL who ++ textL nm ++ textL ot ++ textL tx) false w8 HI8.out (fun w' _ _ h => Kd.C_below HR.out (outI_below HB3.out h (by omega) (by omega))) (ok_texts64 (by simp only [List.length_append, List.length_nil]; have := LN.out; omega) f7) ⟨_, rfl⟩).mono ?_
    rintro e w9 ⟨rfl, h⟩
    rw [FKwd.out] at h
    have HI9 := Aside0.mk h
    have BX' := Aside0.mk ((h.2.1.old w.heap.size (by omega) (by omega)).trans BX3.out)
    clear h hz BX HI8
    have hz6 : w9.cell? ⟨w.heap.size, 6, none⟩ = some (.int .i64 a) := (blk_cell BX'.out 6).trans rfl
    have hz7 : w9.cell? ⟨w.heap.size, 7, none⟩ = some (.int .i64 b) := (blk_cell BX'.out 7).trans rfl
    have hz8 : w9.cell? ⟨w.heap.size, 8, none⟩ = some (.int .i64 c) := (blk_cell BX'.out 8).trans rfl
    have hz9 : w9.cell? ⟨w.heap.size, 9, none⟩ = some (.int .i64 d) := (blk_cell BX'.out 9).trans rfl
    go_wp2_with fail
    clear hz6 hz7 hz8 hz9 BX'
    go_loopw [5, 31] (fun _ i wr => ∃ j : Nat, j ≤ 4 ∧ i = .int .i64 j ∧ Aside0 (OutI w3 w2.heap.size 0 97 #[.bool false, .bool false] base wr ([] ++ putL k ++ textL who ++ textL nm ++ textL ot ++ textL tx ++ textsL wd ++ ([a, b, c, d].take j).flatMap putL) false)) (fun _ i _ => 4 - (intOf i).toNat)
    case atStart => exact ⟨0, Nat.zero_le _, rfl, ⟨by simpa using HI9.out⟩⟩
    case round =>
      have ix0 : ∀ w : World, (Instr.index 23 (.agg #[.int .i64 a, .int .i64 b, .int .i64 c, .int .i64 d]) (.int .i64 0)).run Try.prog w = .ok (.int .i64 a) w := fun _ => by kernel_rfl
      have ix1 : ∀ w : World, (Instr.index 23 (.agg #[.int .i64 a, .int .i64 b, .int .i64 c, .int .i64 d]) (.int .i64 1)).run Try.prog w = .ok (.int .i64 b) w := fun _ => by kernel_rfl
      have ix2 : ∀ w : World, (Instr.index 23 (.agg #[.int .i64 a, .int .i64 b, .int .i64 c, .int .i64 d]) (.int .i64 2)).run Try.prog w = .ok (.int .i64 c) w := fun _ => by kernel_rfl
      have ix3 : ∀ w : World, (Instr.index 23 (.agg #[.int .i64 a, .int .i64 b, .int .i64 c, .int .i64 d]) (.int .i64 3)).run Try.prog w = .ok (.int .i64 d) w := fun _ => by kernel_rfl
      obtain ⟨j, hj, rfl, HI⟩ := hrel
      clear HI9
      rcases (show j = 0 ∨ j = 1 ∨ j = 2 ∨ j = 3 ∨ j = 4 from by omega) with rfl | rfl | rfl | rfl | rfl
      · go_wp2_with fail
        refine ((takes_out w3 w2.heap.size 0 97 #[.bool false, .bool false] base).int wr _ false a HI.out (by have := LN.out; have := LT.out; simp only [List.length_append, List.length_nil, List.take, List.flatMap_cons, List.flatMap_nil]; omega)).mono ?_
        rintro e w9 ⟨rfl, h⟩
        rw [FKa.out] at h
        have HI9 := Aside0.mk h
        clear h HI
        go_wp2_with fail
        go_roundw
        case rel => exact ⟨1, by omega, rfl, ⟨by have h := HI9.out; rw [List.append_assoc] at h; simpa only [List.take, List.flatMap_cons, List.flatMap_nil, List.append_nil, List.nil_append, List.append_assoc] using h⟩⟩
        case measure => simp [intOf]
      · go_wp2_with fail
        refine ((takes_out w3 w2.heap.size 0 97 #[.bool false, .bool false] base).int wr _ false b HI.out (by have := LN.out; have := LT.out; simp only [List.length_append, List.length_nil, List.take, List.flatMap_cons, List.flatMap_nil]; omega)).mono ?_
        rintro e w9 ⟨rfl, h⟩
        rw [FKb.out] at h
        have HI9 := Aside0.mk h
        clear h HI
        go_wp2_with fail
        go_roundw
        case rel => exact ⟨2, by omega, rfl, ⟨by have h := HI9.out; rw [List.append_assoc] at h; simpa only [List.take, List.flatMap_cons, List.flatMap_nil, List.append_nil, List.nil_append, List.append_assoc] using h⟩⟩
        case measure => simp [intOf]
      · go_wp2_with fail
        refine ((takes_out w3 w2.heap.size 0 97 #[.bool false, .bool false] base).int wr _ false c HI.out (by have := LN.out; have := LT.out; simp only [List.length_append, List.length_nil, List.take, List.flatMap_cons, List.flatMap_nil]; omega)).mono ?_
        rintro e w9 ⟨rfl, h⟩
        rw [FKc.out] at h
        have HI9 := Aside0.mk h
        clear h HI
        go_wp2_with fail
        go_roundw
        case rel => exact ⟨3, by omega, rfl, ⟨by have h := HI9.out; rw [List.append_assoc] at h; simpa only [List.take, List.flatMap_cons, List.flatMap_nil, List.append_nil, List.nil_append, List.append_assoc] using h⟩⟩
        case measure => simp [intOf]
      · go_wp2_with fail
        refine ((takes_out w3 w2.heap.size 0 97 #[.bool false, .bool false] base).int wr _ false d HI.out (by have := LN.out; have := LT.out; simp only [List.length_append, List.length_nil, List.take, List.flatMap_cons, List.flatMap_nil]; omega)).mono ?_
        rintro e w9 ⟨rfl, h⟩
        rw [FKd.out] at h
        have HI9 := Aside0.mk h
        clear h HI
        go_wp2_with fail
        go_roundw
        case rel => exact ⟨4, by omega, rfl, ⟨by have h := HI9.out; rw [List.append_assoc] at h; simpa only [List.take, List.flatMap_cons, List.flatMap_nil, List.append_nil, List.nil_append, List.append_assoc] using h⟩⟩
        case measure => simp [intOf]
      · have HBF := Aside0.mk (outI_below HB3.out HI.out (by omega) (by omega))
        have hl : [] ++ putL k ++ textL who ++ textL nm ++ textL ot ++ textL tx ++ textsL wd ++ ([a, b, c, d].take 4).flatMap putL = cmdL k who nm ot tx wd a b c d := by
          simp only [cmdL, List.take, List.flatMap_cons, List.flatMap_nil, List.append_nil, List.nil_append, List.append_assoc]
        have hi := HI.out
        rw [hl] at hi
        have HIF := Aside0.mk hi
        obtain ⟨S, hS⟩ : ∃ S, S = strOfNums (cmdL k who nm ot tx wd a b c d) := ⟨_, rfl⟩
        have hS2 : bytesR (cmdL k who nm ot tx wd a b c d) false = .tuple #[.string S, .bool true] := by rw [hS]; rfl
        have hS3 : putC k who nm ot tx wd a b c d = S := by rw [PC.out, hS]
        have HS2 := Aside0.mk hS2
        have HS3 := Aside0.mk hS3
        clear hS hS2 hS3 hi hl HI
        go_wp2_with fail
        refine (out_bytes _ _ _ _ _ _ _ _ (by exact HIF.out.1)).mono ?_
        rintro e w10 ⟨rfl, rfl⟩
        rw [HS2.out]
        go_wp2
        go_ret
        exact ⟨by rw [HS3.out]; rfl, HBF.out⟩
end Go.Proofs.Ytnajmemcdipknaa.PK
namespace Go.Proofs.Ytnajmemcdipknaa.PK
open Go.RowKit Go.Proofs.YtnajmemcdipknaaW.PrintWords Go.Proofs.YtnajmemcdipknaaW.PrintLast Go.Proofs.YtnajmemcdipknaaW.PrintMore
open Go.ChangeShapes Go.WideShapes
set_option linter.unusedVariables false
set_option linter.unusedSimpArgs false
set_option maxRecDepth 100000
theorem isEmpty_false {s : ByteArray} (h : ¬ s.size = 0) : s.toList.isEmpty = false := by
  cases hc : s.toList with
  | nil => exact absurd ((toList_nil_iff s).mp hc) h
  | cons a b => rfl
end Go.Proofs.Ytnajmemcdipknaa.PK
namespace Go.Proofs.Ytnajmemcdipknaa.PK
open Go.RowKit Go.Proofs.YtnajmemcdipknaaW.PrintWords Go.Proofs.YtnajmemcdipknaaW.PrintLast Go.Proofs.YtnajmemcdipknaaW.PrintMore
open Go.ChangeShapes Go.WideShapes
set_option linter.unusedVariables false
set_option linter.unusedSimpArgs false
set_option maxRecDepth 100000
theorem textL_small {t : ByteArray} (h : t.size ≤ 65536) : textL t = putL t.size ++ bytesOf t := by unfold textL; rw [if_neg (by omega)]
end Go.Proofs.Ytnajmemcdipknaa.PK
