/- Functions of the given program as plain Lean functions, and that the Go code answers what they tell (a law's row: the given statement, out of its plain form). Conditions: none beyond each theorem's own premises. Written by this repo's program wip/myprint.py.
What Put and Get tell, in plain numbers: Get undoes Put, and Get takes nothing but what Put makes; the document's Put and Get tell the same. Condition: none.
The document's Put and Get tell what the program's tell. Condition: none.
Marks: what no number is, and the mark as which a number counts: Canon of the program and of the document. Condition: none.
The document's Get tells what the program's tells. Condition: none.
How a law's arguments are read, kind by kind: from the row's reading to what the walks ask. Condition: none.
Marks as bytes: Put and Get of the program and of the document. Condition: none. -/
import Derived.Test.YtnajmemcdipknaaLb
import Derived.Test.YtnajmemcdipknaaLc
import Derived.Test.YtnajmemcdipknaaLa
import Derived.WalkLawsBesides
import Derived.Test.YtnajmemcdipknaaWWords
import Derived.Test.YtnajmemcdipknaaWMore
import Derived.ProofKit
import Derived.OpenShut
import Derived.Deep.Slices
import Derived.SizedLaws
import Derived.DataShut
namespace Go.Proofs.Ytnajmemcdipknaa.PK
open Go.RowKit Go.Proofs.YtnajmemcdipknaaW.PrintWords Go.Proofs.YtnajmemcdipknaaW.PrintLast Go.Proofs.YtnajmemcdipknaaW.PrintMore
attribute [local go_sem] max2_int min2_int max_two min_two max_three min_three max_four min_four   -- for this text's walks alone
set_option linter.unusedVariables false
set_option linter.unusedSimpArgs false

/-! ### primerref01_Put: function 49 -/
mutual
def primerref01_Put.j0 : Nat → Int → Bool → Option (ByteArray)
  | 0, _, _ => none
  | k + 1, x0, x10 => if x10 = true then (some (⟨#[]⟩ : ByteArray)) else (if x0 < 0 then (primerref01_Put.j1 k (wrap64 (-x0)) 128) else (primerref01_Put.j1 k x0 0))
def primerref01_Put.j1 : Nat → Int → Int → Option (ByteArray)
  | 0, _, _ => none
  | k + 1, x0, x3 => primerref01_Put.l0 k x0 x3 (⟨#[]⟩ : ByteArray)
def primerref01_Put.l0 : Nat → Int → Int → ByteArray → Option (ByteArray)
  | 0, _, _, _ => none
  | k + 1, x0, x3, x4 => if x0 > 0 then ((some (([(Int.tmod x0 256) % 256] : List Int) : List Int)).bind fun y154 => (if (strOfNums y154).size + x4.size ≤ 9223372036854775807 then (primerref01_Put.l0 k (wrap64 (Int.tdiv x0 256)) x3 ((strOfNums y154) ++ x4)) else (none))) else ((some (([(wrap64 (x3 + (x4.size : Int))) % 256] : List Int) : List Int)).bind fun y157 => (if (strOfNums y157).size + x4.size ≤ 9223372036854775807 then (some ((strOfNums y157) ++ x4)) else (none)))
end
def primerref01_Put.f (k : Nat) (a0 : Int) : Option (ByteArray) := if a0 < (-9007199254740992) then (primerref01_Put.j0 k a0 true) else (primerref01_Put.j0 k a0 (decide (a0 > 9007199254740992)))
theorem primerref01_Put.mono_l : ∀ k, (∀ y0 y1, LeO (primerref01_Put.j0 k y0 y1) (primerref01_Put.j0 (k + 1) y0 y1)) ∧ (∀ y0 y1, LeO (primerref01_Put.j1 k y0 y1) (primerref01_Put.j1 (k + 1) y0 y1)) ∧ (∀ y0 y1 y2, LeO (primerref01_Put.l0 k y0 y1 y2) (primerref01_Put.l0 (k + 1) y0 y1 y2))
  | 0 => ⟨fun _ _ r h => by simp [primerref01_Put.j0] at h, fun _ _ r h => by simp [primerref01_Put.j1] at h, fun _ _ _ r h => by simp [primerref01_Put.l0] at h⟩
  | k + 1 => by
    obtain ⟨ih0, ih1, ih2⟩ := primerref01_Put.mono_l k
    refine ⟨?_, ?_, ?_⟩
    · intro y0 y1
      unfold primerref01_Put.j0
      repeat' first
      | (with_reducible exact ih0 _ _)
      | (with_reducible exact ih1 _ _)
      | (with_reducible exact ih2 _ _ _)
      | (with_reducible exact LeO.refl _)
      | (with_reducible exact LeO.none _)
      | (with_reducible refine LeO.ite ?_ ?_)
      | (with_reducible refine LeO.bind ?_ (fun _ => ?_))
      | exact ih0 _ _
      | exact ih1 _ _
      | exact ih2 _ _ _
      | exact LeO.none _
      | refine LeO.ite ?_ ?_
      | refine LeO.bind ?_ (fun _ => ?_)
    · intro y0 y1
      unfold primerref01_Put.j1
      repeat' first
      | (with_reducible exact ih0 _ _)
      | (with_reducible exact ih1 _ _)
      | (with_reducible exact ih2 _ _ _)
      | (with_reducible exact LeO.refl _)
      | (with_reducible exact LeO.none _)
      | (with_reducible refine LeO.ite ?_ ?_)
      | (with_reducible refine LeO.bind ?_ (fun _ => ?_))
      | exact ih0 _ _
      | exact ih1 _ _
      | exact ih2 _ _ _
      | exact LeO.none _
      | refine LeO.ite ?_ ?_
      | refine LeO.bind ?_ (fun _ => ?_)
    · intro y0 y1 y2
      unfold primerref01_Put.l0
      repeat' first
      | (with_reducible exact ih0 _ _)
      | (with_reducible exact ih1 _ _)
      | (with_reducible exact ih2 _ _ _)
      | (with_reducible exact LeO.refl _)
      | (with_reducible exact LeO.none _)
      | (with_reducible refine LeO.ite ?_ ?_)
      | (with_reducible refine LeO.bind ?_ (fun _ => ?_))
      | exact ih0 _ _
      | exact ih1 _ _
      | exact ih2 _ _ _
      | exact LeO.none _
      | refine LeO.ite ?_ ?_
      | refine LeO.bind ?_ (fun _ => ?_)
theorem primerref01_Put.mono : ∀ a0 k, LeO (primerref01_Put.f k a0) (primerref01_Put.f (k + 1) a0) := by
  intro a0 k
  obtain ⟨ih0, ih1, ih2⟩ := primerref01_Put.mono_l k
  unfold primerref01_Put.f
  repeat' first
      | (with_reducible exact ih0 _ _)
      | (with_reducible exact ih1 _ _)
      | (with_reducible exact ih2 _ _ _)
      | (with_reducible exact LeO.refl _)
      | (with_reducible exact LeO.none _)
      | (with_reducible refine LeO.ite ?_ ?_)
      | (with_reducible refine LeO.bind ?_ (fun _ => ?_))
      | exact ih0 _ _
      | exact ih1 _ _
      | exact ih2 _ _ _
      | exact LeO.none _
      | refine LeO.ite ?_ ?_
      | refine LeO.bind ?_ (fun _ => ?_)
set_option maxHeartbeats 8000000 in
set_option maxRecDepth 100000 in
theorem primerref01_Put.calls (k : Nat) (a0 : Int) (r : ByteArray) (w : World) (h : primerref01_Put.f k a0 = some r) :
    Calls Try.prog 49 #[.int .i64 a0] w fun e w' => e = .returned (.string r) ∧ Below w.heap.size w w' := by
  have HB := Aside0.mk (Below.refl w.heap.size w)
  have H : (if a0 < (-9007199254740992) then (primerref01_Put.j0 k a0 true) else (primerref01_Put.j0 k a0 (decide (a0 > 9007199254740992)))) = some r := h
  clear h
  have HC2 := Aside0.mk H
  clear H
  go_enter Try.func49, Try.ntmps49
  go_upto_region 1 with (fail)
  go_cut [10] (fun v10 wc => ∃ (kq : Nat) (x10_1 : Bool), v10 = .bool x10_1 ∧ Aside0 (primerref01_Put.j0 kq a0 x10_1 = some r) ∧ Aside0 (kq ≤ k) ∧ Aside0 (Below w.heap.size w wc))
  case first =>
    have H := HC2.out
    clear HC2
    by_cases c3 : a0 < (-9007199254740992)
    · rw [if_pos c3] at H
      have c3b0 : decide (a0 < (-9007199254740992)) = true := decide_eq_true c3
      clear c3
      (first | rw [c3b0] | (simp only [i64_w, i32_w]; rw [c3b0]) | skip)
      have H' := Aside0.mk H
      clear H
      go_wp2
      go_meet
      case rel => exact ⟨_, (true), (by first | rfl | (simp; done) | (simp [*]; done)), H', ⟨by first | omega | exact Nat.le_refl _⟩, ⟨by repeat (first | (with_reducible first | exact HB.out | apply below_alloc | apply pw_below_drewN | apply below_drew1) | exact HB.out)⟩⟩
    · rw [if_neg c3] at H
      have c3b0 : decide (a0 < (-9007199254740992)) = false := decide_eq_false c3
      clear c3
      (first | rw [c3b0] | (simp only [i64_w, i32_w]; rw [c3b0]) | skip)
      have H' := Aside0.mk H
      clear H
      go_wp2
      go_meet
      case rel => exact ⟨_, (decide (a0 > 9007199254740992)), (by first | rfl | (simp; done) | (simp [*]; done)), H', ⟨by first | omega | exact Nat.le_refl _⟩, ⟨by repeat (first | (with_reducible first | exact HB.out | apply below_alloc | apply pw_below_drewN | apply below_drew1) | exact HB.out)⟩⟩
  case rest =>
    clear HC2
    try clear p2
    try clear c3
    try clear c3b0
    obtain ⟨kq, x10_1, rfl, HA, HJ1, HB⟩ := hcut
    cases kq with
    | zero => exact absurd HA.out (by simp [primerref01_Put.j0])
    | succ kj1 =>
      have H := HA.out
      clear HA
      simp only [primerref01_Put.j0] at H
      by_cases c4 : x10_1 = true
      · subst c4
        have H1 : (some (⟨#[]⟩ : ByteArray)) = some r := by rw [if_pos rfl] at H; exact H
        clear H
        have H := H1
        clear H1
        obtain rfl := Option.some.inj H
        go_wp2
        go_ret
        exact ⟨by first | rfl | (simp [errW_none, errW_some] <;> rfl) | (simp [*, errW_none, errW_some] <;> rfl), by repeat (first | (with_reducible first | exact HB.out | apply below_alloc | apply pw_below_drewN | apply below_drew1) | exact HB.out)⟩
      · replace c4 := Bool.eq_false_iff.mpr c4
        subst c4
        have H1 : (if a0 < 0 then (primerref01_Put.j1 kj1 (wrap64 (-a0)) 128) else (primerref01_Put.j1 kj1 a0 0)) = some r := by rw [if_neg (show ¬ (false = true) by decide)] at H; exact H
        clear H
        have H := H1
        clear H1
        have HC5 := Aside0.mk H
        clear H
        go_upto_if 12 with (fail)
        go_cut [0, 3] (fun v0 v3 wc => ∃ (kq : Nat) (x0_4 : Int) (x3_4 : Int), v0 = .int .i64 x0_4 ∧ v3 = .int .i64 x3_4 ∧ Aside0 (primerref01_Put.j1 kq x0_4 x3_4 = some r) ∧ Aside0 (kq ≤ kj1) ∧ Aside0 (Below w.heap.size w wc))
        case first =>
          have H := HC5.out
          clear HC5
          by_cases c6 : a0 < 0
          · rw [if_pos c6] at H
            have c6b0 : decide (a0 < 0) = true := decide_eq_true c6
            clear c6
            (first | rw [c6b0] | (simp only [i64_w, i32_w]; rw [c6b0]) | skip)
            have H' := Aside0.mk H
            clear H
            go_wp2
            go_meet
            case rel => exact ⟨_, (wrap64 (-a0)), (128), (by first | rfl | (simp; done) | (simp [*]; done)), (by first | rfl | (simp; done) | (simp [*]; done)), H', ⟨by have := HJ1.out; first | omega | exact Nat.le_refl _⟩, ⟨by repeat (first | (with_reducible first | exact HB.out | apply below_alloc | apply pw_below_drewN | apply below_drew1) | exact HB.out)⟩⟩
          · rw [if_neg c6] at H
            have c6b0 : decide (a0 < 0) = false := decide_eq_false c6
            clear c6
            (first | rw [c6b0] | (simp only [i64_w, i32_w]; rw [c6b0]) | skip)
            have H' := Aside0.mk H
            clear H
            go_wp2
            go_meet
            case rel => exact ⟨_, (a0), (0), (by first | rfl | (simp; done) | (simp [*]; done)), (by first | rfl | (simp; done) | (simp [*]; done)), H', ⟨by have := HJ1.out; first | omega | exact Nat.le_refl _⟩, ⟨by repeat (first | (with_reducible first | exact HB.out | apply below_alloc | apply pw_below_drewN | apply below_drew1) | exact HB.out)⟩⟩
        case rest =>
          clear HC5
          try clear p2
          try clear c3
          try clear c3b0
          try clear c4
          try clear c6
          try clear c6b0
          try clear p6
          try clear p2
          obtain ⟨kq, x0_4, x3_4, rfl, rfl, HA, HJ4, HB⟩ := hcut
          cases kq with
          | zero => exact absurd HA.out (by simp [primerref01_Put.j1])
          | succ kj4 =>
            have H := HA.out
            clear HA
            simp only [primerref01_Put.j1] at H
            have H' := Aside0.mk H
            clear H
            go_wp2
            go_loopg [0, 4] kj4 (fun kq v0 v4 w' => ∃ (x0_3 : Int) (x4_3 : ByteArray), v0 = .int .i64 x0_3 ∧ v4 = .string x4_3 ∧ Aside0 (primerref01_Put.l0 kq x0_3 x3_4 x4_3 = some r) ∧ Aside0 (kq ≤ kj4) ∧ Aside0 (Below w.heap.size w w'))
            case atStart => exact ⟨(x0_4), ((⟨#[]⟩ : ByteArray)), (by first | rfl | (simp; done) | (simp [*]; done)), (by first | rfl | (simp; done) | (simp [*]; done)), H', ⟨Nat.le_refl _⟩, ⟨by repeat (first | (with_reducible first | exact HB.out | apply below_alloc | apply pw_below_drewN | apply below_drew1) | exact HB.out)⟩⟩
            case round =>
              clear H'
              try clear p2
              try clear c3
              try clear c3b0
              try clear c4
              try clear c6
              try clear c6b0
              try clear p6
              try clear p2
              try clear p6
              obtain ⟨x0_3, x4_3, rfl, rfl, HA, HK3, HB⟩ := hrel
              cases gk with
              | zero => exact absurd HA.out (by simp [primerref01_Put.l0])
              | succ k3 =>
                have H := HA.out
                clear HA
                simp only [primerref01_Put.l0] at H
                by_cases c7 : x0_3 > 0
                · rw [if_pos c7] at H
                  have c7b0 : decide (0 < x0_3) = true := decide_eq_true c7
                  clear c7
                  obtain ⟨y154, hy154⟩ : ∃ y_ : List Int, y_ = (([(Int.tmod x0_3 256) % 256] : List Int)) := ⟨_, rfl⟩
                  replace H : (if (strOfNums y154).size + x4_3.size ≤ 9223372036854775807 then (primerref01_Put.l0 k3 (wrap64 (Int.tdiv x0_3 256)) x3_4 ((strOfNums y154) ++ x4_3)) else (none)) = some r := by first | (rw [hy154]; with_reducible exact H) | (have H2_ := (Option.bind_some _ _).symm.trans H; rw [hy154]; with_reducible exact H2_) | (have H2_ := (Option.bind_some _ _).symm.trans H; with_reducible exact H2_) | with_reducible exact H | (rw [hy154]; exact H) | exact H
                  have Ny154 := Aside0.mk hy154
                  clear hy154
                  by_cases c8 : (strOfNums y154).size + x4_3.size ≤ 9223372036854775807
                  · rw [if_pos c8] at H
                    have c8b0 := eq_true c8
                    have c8b1 : decide ((strOfNums y154).size + x4_3.size ≤ 9223372036854775807) = true := decide_eq_true c8
                    try have c8b2 : (9223372036854775807 < (strOfNums y154).size + x4_3.size) = False := eq_false (Nat.not_lt.2 c8)
                    have H' := Aside0.mk H
                    clear H
                    go_wp2_with (first | ((with_reducible refine gate_dst (N := 20) rfl ?_); refine Kd.R_lit (Kd.int .u8) _ 5 ?hg (N := 20) ?hd (xs := ([(Int.tmod x0_3 256) % 256] : List Int)) (inner := [.int .u8 ((Int.tmod x0_3 256) % 256)]) (ok := fun _ => True) (okp := fun _ => True) ?hr ?hp (fun _ hk => hk) trivial (Below.refl _ _) (Nat.le_refl _) (by simp) ?_; (case hd => rfl); (case hg => rfl); (case hr => first | (go_simp; done) | (go_simp; rfl)); (case hp => exact (Reps.one (show Kd.M (Kd.int .u8) _ _ _ ((Int.tmod x0_3 256) % 256) [.int .u8 ((Int.tmod x0_3 256) % 256)] from rfl) (Reps.none _ _))); intro v155 w9 ho10 hb hg_ hnew_; clear hg_ hnew_; (first | rw [← Ny154.out] at ho10 | (simp only [Int.reduceToNat] at ho10; rw [← Ny154.out] at ho10)); have n0_ := Aside0.mk (Kd.R_lower ho10 (below_size (by repeat (first | (with_reducible first | exact HB.out | apply below_alloc | apply pw_below_drewN | apply below_drew1) | exact HB.out)))); have n1_ := Aside0.mk (below_step (by repeat (first | (with_reducible first | exact HB.out | apply below_alloc | apply pw_below_drewN | apply below_drew1) | exact HB.out)) hb); clear HB; have HO156 := n0_; have HB := n1_; clear n0_ n1_; clear hb ho10; have hcv11 := own_string (P := Try.prog) Try.underlying62 Try.underlying5 Try.underlying9 (Kd.own_of_R HO156.out)))
                    go_roundg k3
                    case measure => have := HJ1.out; have := HJ4.out; have := HK3.out; omega
                    case rel => exact ⟨(wrap64 (Int.tdiv x0_3 256)), ((strOfNums y154) ++ x4_3), (by first | rfl | (simp; done) | (simp [*]; done)), (by first | rfl | (simp; done) | (simp [*]; done)), H', ⟨by have := HJ1.out; have := HJ4.out; have := HK3.out; omega⟩, ⟨by repeat (first | (with_reducible first | exact HB.out | apply below_alloc | apply pw_below_drewN | apply below_drew1) | exact HB.out)⟩⟩
                  · rw [if_neg c8] at H
                    exact absurd H (by simp)
                · rw [if_neg c7] at H
                  have c7b0 : decide (0 < x0_3) = false := decide_eq_false c7
                  clear c7
                  obtain ⟨y157, hy157⟩ : ∃ y_ : List Int, y_ = (([(wrap64 (x3_4 + (x4_3.size : Int))) % 256] : List Int)) := ⟨_, rfl⟩
                  replace H : (if (strOfNums y157).size + x4_3.size ≤ 9223372036854775807 then (some ((strOfNums y157) ++ x4_3)) else (none)) = some r := by first | (rw [hy157]; with_reducible exact H) | (have H2_ := (Option.bind_some _ _).symm.trans H; rw [hy157]; with_reducible exact H2_) | (have H2_ := (Option.bind_some _ _).symm.trans H; with_reducible exact H2_) | with_reducible exact H | (rw [hy157]; exact H) | exact H
                  have Ny157 := Aside0.mk hy157
                  clear hy157
                  by_cases c12 : (strOfNums y157).size + x4_3.size ≤ 9223372036854775807
                  · rw [if_pos c12] at H
                    have c12b0 := eq_true c12
                    have c12b1 : decide ((strOfNums y157).size + x4_3.size ≤ 9223372036854775807) = true := decide_eq_true c12
                    try have c12b2 : (9223372036854775807 < (strOfNums y157).size + x4_3.size) = False := eq_false (Nat.not_lt.2 c12)
                    obtain rfl := Option.some.inj H
                    go_wp2_with (first | ((with_reducible refine gate_dst (N := 31) rfl ?_); refine Kd.R_lit (Kd.int .u8) _ 5 ?hg (N := 31) ?hd (xs := ([(wrap64 (x3_4 + (x4_3.size : Int))) % 256] : List Int)) (inner := [.int .u8 ((wrap64 (x3_4 + (x4_3.size : Int))) % 256)]) (ok := fun _ => True) (okp := fun _ => True) ?hr ?hp (fun _ hk => hk) trivial (Below.refl _ _) (Nat.le_refl _) (by simp) ?_; (case hd => rfl); (case hg => rfl); (case hr => first | (go_simp; done) | (go_simp; rfl)); (case hp => exact (Reps.one (show Kd.M (Kd.int .u8) _ _ _ ((wrap64 (x3_4 + (x4_3.size : Int))) % 256) [.int .u8 ((wrap64 (x3_4 + (x4_3.size : Int))) % 256)] from rfl) (Reps.none _ _))); intro v158 w13 ho14 hb hg_ hnew_; clear hg_ hnew_; (first | rw [← Ny157.out] at ho14 | (simp only [Int.reduceToNat] at ho14; rw [← Ny157.out] at ho14)); have n0_ := Aside0.mk (Kd.R_lower ho14 (below_size (by repeat (first | (with_reducible first | exact HB.out | apply below_alloc | apply pw_below_drewN | apply below_drew1) | exact HB.out)))); have n1_ := Aside0.mk (below_step (by repeat (first | (with_reducible first | exact HB.out | apply below_alloc | apply pw_below_drewN | apply below_drew1) | exact HB.out)) hb); clear HB; have HO159 := n0_; have HB := n1_; clear n0_ n1_; clear hb ho14; have hcv15 := own_string (P := Try.prog) Try.underlying62 Try.underlying5 Try.underlying9 (Kd.own_of_R HO159.out)))
                    go_ret
                    exact ⟨by first | rfl | (simp [errW_none, errW_some] <;> rfl) | (simp [*, errW_none, errW_some] <;> rfl), by repeat (first | (with_reducible first | exact HB.out | apply below_alloc | apply pw_below_drewN | apply below_drew1) | exact HB.out)⟩
                  · rw [if_neg c12] at H
                    exact absurd H (by simp)

end Go.Proofs.Ytnajmemcdipknaa.PK
namespace Go.Proofs.Ytnajmemcdipknaa.PK
open Go.RowKit Go.Proofs.YtnajmemcdipknaaW.PrintWords Go.Proofs.YtnajmemcdipknaaW.PrintLast Go.Proofs.YtnajmemcdipknaaW.PrintMore
attribute [local go_sem] max2_int min2_int max_two min_two max_three min_three max_four min_four   -- for this text's walks alone
set_option linter.unusedVariables false
set_option linter.unusedSimpArgs false

/-! ### primerref01_Get: function 102 -/
/-! ### primerref01_Int: function 59 -/
end Go.Proofs.Ytnajmemcdipknaa.PK
namespace Go.Proofs.Ytnajmemcdipknaa.PK
open Go.RowKit Go.Proofs.YtnajmemcdipknaaW.PrintWords Go.Proofs.YtnajmemcdipknaaW.PrintLast Go.Proofs.YtnajmemcdipknaaW.PrintMore
attribute [local go_sem] max2_int min2_int max_two min_two max_three min_three max_four min_four   -- for this text's walks alone
set_option linter.unusedVariables false
set_option linter.unusedSimpArgs false

/-! ### primerref01_Size: function 103 -/
/-! ### primerref01_Text: function 60 -/
/-! ### primerref01_Texts: function 61 -/
/-! ### octets_Open: function 52 -/
def octets_Open.f (a0 : ByteArray) : Option (ByteArray × Int) := some (a0, 0)
set_option maxHeartbeats 8000000 in
set_option maxRecDepth 100000 in
theorem octets_Open.calls (a0 : ByteArray) (r1 : ByteArray) (r2 : Int) (w0 w : World) (hB : Below w0.heap.size w0 w) (h : octets_Open.f a0 = some (r1, r2)) :
    Calls Try.prog 52 #[.string a0] w fun e w' => ∃ g_ : Nat, e = .returned (.pointer (some ⟨g_, 0, none⟩)) ∧ IsS153 w0 w' g_ r1 r2 ∧ Below w0.heap.size w0 w' ∧ Below w.heap.size w w' := by
  have hu153 := Try.underlying153
  have HBW := Aside0.mk (Below.refl w.heap.size w)
  have HW0 := Aside0.mk hB.size
  have HB := Aside0.mk hB
  clear hB
  have H : (some (a0, 0)) = some (r1, r2) := h
  clear h
  simp only [Option.some.injEq, Prod.mk.injEq] at H
  obtain ⟨rfl, rfl⟩ := H
  go_enter Try.func52, Try.ntmps52
  go_wp2_with (first | ((with_reducible refine gate_dst (N := 5) rfl ?_); refine box_event ?hg (N := 5) ?hd (cs := #[.string a0, .int .i64 0]) (t := 153) ?hr ?_; (case hd => rfl); (case hg => rfl); (case hr => first | (go_simp; done) | (go_simp; rfl)); intro gb180 hg w2 hbox hb; have n0_ := Aside0.mk (below_step HBW.out hb); have n1_ := Aside0.mk (below_step (by repeat (first | (with_reducible first | exact HB.out | apply below_alloc | apply pw_below_drewN | apply below_drew1) | exact HB.out)) hb); have n2_ := Aside0.mk (hbox); have n3_ := Aside0.mk ((by rw [hg]; exact (below_size (by repeat (first | (with_reducible first | exact HBW.out | apply below_alloc | apply pw_below_drewN | apply below_drew1) | exact HBW.out))) : w.heap.size ≤ gb180)); have n4_ := Aside0.mk ((Nat.le_trans HW0.out (by rw [hg]; exact (below_size (by repeat (first | (with_reducible first | exact HBW.out | apply below_alloc | apply pw_below_drewN | apply below_drew1) | exact HBW.out))) : w.heap.size ≤ gb180) : w0.heap.size ≤ gb180)); clear HBW; clear HB; have HBW := n0_; have HB := n1_; have BK180 := n2_; have GW180 := n3_; have GE180 := n4_; clear n0_ n1_ n2_ n3_ n4_; clear hb hbox hg))
  go_ret
  exact ⟨_, rfl, (show IsS153 w0 _ gb180 a0 0 from ⟨by (with_reducible repeat (first | refine blk_drewN ?_ _ | refine blk_drew ?_ | refine blk_alloc ?_ _)); exact BK180.out, GE180.out⟩), by repeat (first | (with_reducible first | exact HB.out | apply below_alloc | apply pw_below_drewN | apply below_drew1 | refine below_set ?_ GE180.out) | exact HB.out), by repeat (first | (with_reducible first | exact HBW.out | apply below_alloc | apply pw_below_drewN | apply below_drew1 | refine below_set ?_ GW180.out) | exact HBW.out)⟩

end Go.Proofs.Ytnajmemcdipknaa.PK
namespace Go.Proofs.Ytnajmemcdipknaa.PK
open Go.RowKit Go.Proofs.YtnajmemcdipknaaW.PrintWords Go.Proofs.YtnajmemcdipknaaW.PrintLast Go.Proofs.YtnajmemcdipknaaW.PrintMore
set_option linter.unusedVariables false
set_option linter.unusedSimpArgs false
set_option maxRecDepth 100000

theorem ediv2 (m a b : Int) (ha : 0 ≤ a) : m / (a * b) = m / a / b := by rw [Int.ediv_ediv, if_neg (by omega)]; omega
theorem p256_pos (k : Nat) : (0 : Int) < 256 ^ k := Int.pow_pos (by omega)
theorem p256_succ (k : Nat) : (256 : Int) ^ (k + 1) = 256 * 256 ^ k := by rw [Int.pow_succ, Int.mul_comm]
/-- The digits of m are d: no more, no less. -/
def Digs (d : Nat) (m : Int) : Prop := 0 ≤ m ∧ m < 256 ^ d ∧ (∀ e, d = e + 1 → 256 ^ e ≤ m)
theorem digs_zero (m : Int) : Digs 0 m ↔ m = 0 := by
  unfold Digs; simp; omega
theorem digs_succ (d : Nat) (m : Int) : Digs (d + 1) m ↔ 0 < m ∧ Digs d (m / 256) := by
  have hp := p256_pos d
  constructor
  · rintro ⟨h0, h1, h2⟩
    have h2 := h2 d rfl
    rw [p256_succ] at h1
    refine ⟨by omega, by omega, by omega, fun e he => ?_⟩
    subst he
    rw [p256_succ] at h2
    omega
  · rintro ⟨h0, h1, h2, h3⟩
    refine ⟨by omega, by rw [p256_succ]; omega, fun e he => ?_⟩
    obtain rfl : d = e := by omega
    cases d with
    | zero => simp; omega
    | succ e => have := h3 e rfl; rw [p256_succ]; omega
theorem digs_nb (m : Int) (h0 : 0 ≤ m) (h1 : m ≤ 72057594037927935) : Digs (nb m) m := by
  unfold nb
  have e : ∀ d : Nat, d ≤ 7 → (256 : Int) ^ d < 256 ^ d + 1 := fun d _ => by omega
  unfold Digs
  repeat' split
  · refine ⟨h0, by omega, fun e he => by omega⟩
  · refine ⟨h0, by omega, fun e he => ?_⟩; obtain rfl : e = 0 := by omega
    simp; omega
  · refine ⟨h0, by omega, fun e he => ?_⟩; obtain rfl : e = 1 := by omega
    omega
  · refine ⟨h0, by omega, fun e he => ?_⟩; obtain rfl : e = 2 := by omega
    omega
  · refine ⟨h0, by omega, fun e he => ?_⟩; obtain rfl : e = 3 := by omega
    omega
  · refine ⟨h0, by omega, fun e he => ?_⟩; obtain rfl : e = 4 := by omega
    omega
  · refine ⟨h0, by omega, fun e he => ?_⟩; obtain rfl : e = 5 := by omega
    omega
  · refine ⟨h0, by omega, fun e he => ?_⟩; obtain rfl : e = 6 := by omega
    omega
theorem digs_inj (d e : Nat) (m : Int) (h : Digs d m) (k : Digs e m) : d = e := by
  induction d generalizing e m with
  | zero =>
    rw [digs_zero] at h
    cases e with
    | zero => rfl
    | succ e => rw [digs_succ] at k; omega
  | succ d ih =>
    rw [digs_succ] at h
    cases e with
    | zero => rw [digs_zero] at k; omega
    | succ e => rw [digs_succ] at k; rw [ih e _ h.2 k.2]
theorem beL_snoc (d : Nat) (m : Int) : beL (d + 1) m = beL d (m / 256) ++ [m % 256] := by
  induction d with
  | zero => simp [beL]
  | succ d ih =>
    have e : m / 256 ^ (d + 1) = m / 256 / 256 ^ d := by
      rw [p256_succ, ediv2 _ _ _ (by omega)]
    show (m / 256 ^ (d + 1)) % 256 :: beL (d + 1) m = ((m / 256) / 256 ^ d) % 256 :: beL d (m / 256) ++ [m % 256]
    rw [e, ih]
    rfl
theorem beL_get (k : Nat) (m : Int) (j : Nat) (h : j < k) : (beL k m).getD j 0 = (m / 256 ^ (k - 1 - j)) % 256 := by
  induction k generalizing j with
  | zero => omega
  | succ k ih =>
    cases j with
    | zero => simp [beL]
    | succ j =>
      show (beL k m).getD j 0 = _
      rw [ih j (by omega)]
      congr 3
      omega
/-- The value of the bytes that a number's digits are. -/
theorem valB_of (s : ByteArray) (K : Nat) (m : Int) (h0 : 0 ≤ m) (h1 : m < 256 ^ K) (hb : ∀ j : Nat, j < K → bt s ((j : Int) + 1) = (m / 256 ^ (K - 1 - j)) % 256) (i : Nat) (hi : i ≤ K) : valB s i = m / 256 ^ (K - i) := by
  induction i with
  | zero =>
    simp only [valB, Nat.sub_zero]
    rw [Int.ediv_eq_zero_of_lt h0 h1]
  | succ i ih =>
    simp only [valB]
    rw [ih (by omega), hb i (by omega)]
    have e1 : K - i = (K - (i + 1)) + 1 := by omega
    have e2 : K - 1 - i = K - (i + 1) := by omega
    rw [e1, e2, p256_succ]
    have : m / (256 * 256 ^ (K - (i + 1))) = m / 256 ^ (K - (i + 1)) / 256 := by
      rw [Int.mul_comm, ediv2 _ _ _ (by have := p256_pos (K - (i + 1)); omega)]
    rw [this]
    omega
theorem valB_digits (s : ByteArray) (K : Nat) (j : Nat) (h : j < K) : bt s ((j : Int) + 1) = (valB s K / 256 ^ (K - 1 - j)) % 256 := by
  induction K with
  | zero => omega
  | succ K ih =>
    simp only [valB]
    have hb := bt_range s ((K : Int) + 1)
    rcases Nat.lt_or_ge j K with hj | hj
    · have e : K + 1 - 1 - j = (K - 1 - j) + 1 := by omega
      rw [e, p256_succ, ediv2 _ _ _ (by omega)]
      have : (valB s K * 256 + bt s ((K : Int) + 1)) / 256 = valB s K := by omega
      rw [this]
      exact ih hj
    · obtain rfl : j = K := by omega
      have e : j + 1 - 1 - j = 0 := by omega
      rw [e]
      simp
      omega
theorem head_get (l : List Int) (t : ByteArray) (s : ByteArray) (hs : bytesOf s = l ++ bytesOf t) (j : Nat) (hj : j < l.length) : bt s (j : Int) = l.getD j 0 := by
  rw [bt_nat, hs, List.getD_eq_getElem?_getD, List.getElem?_append_left hj, List.getD_eq_getElem?_getD]
theorem putL_form (n : Int) (h : -9007199254740992 ≤ n ∧ n ≤ 9007199254740992) : ∃ (sg m : Int) (K : Nat), putL n = (sg + K) :: beL K m ∧ Digs K m ∧ K ≤ 7 ∧ 0 ≤ m ∧ m ≤ 9007199254740992 ∧ ((sg = 0 ∧ n = m) ∨ (sg = 128 ∧ n = -m ∧ 0 < m)) := by
  unfold putL
  rw [if_neg (by omega)]
  split
  · exact ⟨128, -n, nb (-n), rfl, digs_nb _ (by omega) (by omega), nb_le _, by omega, by omega, .inr ⟨rfl, by omega, by omega⟩⟩
  · exact ⟨0, n, nb n, by simp, digs_nb _ (by omega) (by omega), nb_le _, by omega, by omega, .inl ⟨rfl, rfl⟩⟩
/-- Get, behind what Put made. -/
theorem get_put (n : Int) (h : -9007199254740992 ≤ n ∧ n ≤ 9007199254740992) (s t : ByteArray) (hs : bytesOf s = putL n ++ bytesOf t) : getA s = (n, ((putL n).length : Int), 0) := by
  obtain ⟨sg, m, K, hp, hd, hK, hm0, hm1, hc⟩ := putL_form n h
  have hl : (putL n).length = K + 1 := by rw [hp]; simp [beL_length]
  have hsz : s.size = K + 1 + t.size := by
    have := congrArg List.length hs
    rw [List.length_append, bytesOf_len, bytesOf_len, hl] at this
    exact this
  have b0 : bt s 0 = sg + K := by
    have := head_get (putL n) t s hs 0 (by omega)
    rw [hp] at this
    exact this
  have bj : ∀ j : Nat, j < K → bt s ((j : Int) + 1) = (m / 256 ^ (K - 1 - j)) % 256 := by
    intro j hj
    have := head_get (putL n) t s hs (j + 1) (by omega)
    rw [hp] at this
    have e : ((j + 1 : Nat) : Int) = (j : Int) + 1 := by omega
    rw [e] at this
    rw [this]
    exact beL_get K m j hj
  have hv : valB s K = m := by
    have := valB_of s K m hm0 hd.2.1 bj K (Nat.le_refl _)
    rw [Nat.sub_self] at this
    simpa using this
  have hk : bt s 0 % 128 = K := by rw [b0]; rcases hc with ⟨rfl, _⟩ | ⟨rfl, _⟩ <;> omega
  have hk' : (bt s 0 % 128).toNat = K := by omega
  have h1 : K > 0 → bt s 1 ≠ 0 := by
    intro hk0
    have := bj 0 hk0
    simp only [Int.natCast_zero, Int.zero_add, Nat.sub_zero] at this
    have hlo := hd.2.2 (K - 1) (by omega)
    have hhi := hd.2.1
    have e : K = (K - 1) + 1 := by omega
    rw [e, p256_succ] at hhi
    have hp := p256_pos (K - 1)
    rw [this]
    have a1 : 1 ≤ m / 256 ^ (K - 1) := Int.le_ediv_of_mul_le hp (by omega)
    have a2 : m / 256 ^ (K - 1) < 256 := Int.ediv_lt_of_lt_mul hp (by omega)
    omega
  have hz : ¬ s.size = 0 := by omega
  have c1 : ¬ (bt s 0 % 128 > 7 ∨ 128 ≤ bt s 0 ∧ bt s 0 % 128 = 0) := by
    rw [hk]
    rintro (h | ⟨h, h'⟩)
    · omega
    · rcases hc with ⟨rfl, _⟩ | ⟨rfl, _, hpos⟩
      · omega
      · have : K = 0 := by omega
        subst this
        have := (digs_zero m).mp hd
        omega
  have c2 : ¬ ((s.size : Int) ≤ bt s 0 % 128) := by omega
  have c3 : ¬ (valB s (bt s 0 % 128).toNat > 9007199254740992 ∨ bt s 0 % 128 > 0 ∧ bt s 1 = 0) := by
    rw [hk', hv]
    rintro (h | ⟨h, h'⟩)
    · omega
    · exact h1 (by omega) h'
  unfold getA
  rw [if_neg hz, if_neg c1, if_neg c2, if_neg c3, hk', hv, hk, hl]
  rcases hc with ⟨rfl, rfl⟩ | ⟨rfl, rfl, hpos⟩
  · rw [if_neg (by omega)]; rfl
  · rw [if_pos (by omega)]; rfl
/-- Where Get tells a number, the bytes are those that Put makes of it. -/
theorem put_get (s : ByteArray) (n k : Int) (h : getA s = (n, k, 0)) : putL n = (bytesOf s).take k.toNat ∧ 1 ≤ k ∧ k ≤ s.size ∧ k ≤ 8 ∧ -9007199254740992 ≤ n ∧ n ≤ 9007199254740992 := by
  have hb0 := bt_range s 0
  unfold getA at h
  split at h
  · simp at h
  · rename_i hz
    split at h
    · simp at h
    · rename_i c1
      split at h
      · simp at h
      · rename_i c2
        split at h
        · simp at h
        · rename_i c3
          simp only [Prod.mk.injEq, and_true] at h
          obtain ⟨hn, rfl⟩ := h
          obtain ⟨K, hK⟩ : ∃ K : Nat, (K : Int) = bt s 0 % 128 := ⟨(bt s 0 % 128).toNat, by omega⟩
          rw [← hK] at c1 c2 c3 hn ⊢
          rw [Int.toNat_natCast] at c3 hn
          have hv := valB_range s K
          have hd : Digs K (valB s K) := by
            refine ⟨hv.1, hv.2, fun e he => ?_⟩
            subst he
            have h1 : bt s 1 ≠ 0 := fun h => c3 (.inr ⟨by omega, h⟩)
            have hr1 := bt_range s 1
            have := valB_digits s (e + 1) 0 (by omega)
            simp only [Int.natCast_zero, Int.zero_add] at this
            have e2 : e + 1 - 1 - 0 = e := by omega
            rw [e2] at this
            have hp := p256_pos e
            rcases (show valB s (e + 1) < 256 ^ e ∨ 256 ^ e ≤ valB s (e + 1) from by omega) with hlt | hge
            · rw [Int.ediv_eq_zero_of_lt hv.1 hlt] at this
              omega
            · exact hge
          have hle : valB s K ≤ 9007199254740992 := by
            rcases (show 9007199254740992 < valB s K ∨ valB s K ≤ 9007199254740992 from by omega) with h | h
            · exact absurd (.inl h) c3
            · exact h
          have hnb : nb (valB s K) = K := digs_inj _ _ _ (digs_nb _ hv.1 (by omega)) hd
          have htk : ((K : Int) + 1).toNat = K + 1 := by omega
          have tail : beL K (valB s K) = (List.range K).map fun (j : Nat) => bt s ((j : Int) + 1) := by
            apply List.ext_getElem
            · simp [beL_length]
            · intro i h1 h2
              have hi : i < K := by rw [beL_length] at h1; exact h1
              have := beL_get K (valB s K) i hi
              rw [List.getD_eq_getElem?_getD, List.getElem?_eq_getElem h1] at this
              simp only [Option.getD_some] at this
              rw [this, ← valB_digits s K i hi]
              simp
          have whole : (bytesOf s).take (K + 1) = bt s 0 :: beL K (valB s K) := by
            rw [bytes_take s (K + 1) (by omega), tail, List.range_succ_eq_map]
            simp [Function.comp]
          rw [htk, whole]
          refine ⟨?_, by omega, by omega, by omega, ?_⟩
          · by_cases hb : 128 ≤ bt s 0
            · rw [if_pos hb] at hn
              have hpos : 0 < valB s K := by
                rcases Nat.eq_zero_or_pos K with hk0 | hk0
                · exact absurd (.inr ⟨hb, by omega⟩) c1
                · have := hd.2.2 (K - 1) (by omega)
                  have := p256_pos (K - 1)
                  omega
              subst hn
              unfold putL
              rw [if_neg (by omega), if_pos (by omega), Int.neg_neg, hnb]
              congr 1
              omega
            · rw [if_neg hb] at hn
              subst hn
              unfold putL
              rw [if_neg (by omega), if_neg (by omega), hnb]
              congr 1
              omega
          · split at hn <;> omega
end Go.Proofs.Ytnajmemcdipknaa.PK
namespace Go.Proofs.Ytnajmemcdipknaa.PK
open Go.RowKit Go.Proofs.YtnajmemcdipknaaW.PrintWords Go.Proofs.YtnajmemcdipknaaW.PrintLast Go.Proofs.YtnajmemcdipknaaW.PrintMore
set_option linter.unusedVariables false
set_option linter.unusedSimpArgs false
set_option maxRecDepth 100000
theorem strOf_append (a b : List Int) : strOfNums (a ++ b) = strOfNums a ++ strOfNums b := by
  apply ByteArray.ext
  unfold strOfNums
  rw [ByteArray.data_append]
  simp
theorem app_assoc (a b c : ByteArray) : a ++ b ++ c = a ++ (b ++ c) := by
  apply ByteArray.ext
  simp [ByteArray.data_append]
theorem app_empty (a : ByteArray) : a ++ (⟨#[]⟩ : ByteArray) = a := by
  apply ByteArray.ext
  simp [ByteArray.data_append]
theorem w64 (x : Int) (h0 : -9223372036854775808 ≤ x) (h1 : x ≤ 9223372036854775807) : wrap64 x = x := by unfold wrap64; omega
theorem refPut_l0 (x3 : Int) (h3 : 0 ≤ x3 ∧ x3 ≤ 128) (d : Nat) : ∀ (m : Int) (s : ByteArray) (k : Nat), Digs d m → d + s.size ≤ 7 → m ≤ 9007199254740992 → d < k →
    primerref01_Put.l0 k m x3 s = some (strOfNums ((x3 + ((d + s.size : Nat) : Int)) :: beL d m) ++ s) := by
  induction d with
  | zero =>
    intro m s k hd hs hm hk
    obtain ⟨k, rfl⟩ : ∃ j, k = j + 1 := ⟨k - 1, by omega⟩
    have hm0 := (digs_zero m).mp hd
    subst hm0
    simp only [primerref01_Put.l0]
    rw [if_neg (by omega), Option.bind_some, strOfNums_size, if_pos (by simp; omega), w64 _ (by omega) (by omega), Int.emod_eq_of_lt (by omega) (by omega)]
    simp [beL]
  | succ d ih =>
    intro m s k hd hs hm hk
    obtain ⟨k, rfl⟩ : ∃ j, k = j + 1 := ⟨k - 1, by omega⟩
    have hd' := (digs_succ d m).mp hd
    simp only [primerref01_Put.l0]
    have e1 : Int.tmod m 256 = m % 256 := Int.tmod_eq_emod_of_nonneg (by omega)
    have e2 : Int.tdiv m 256 = m / 256 := Int.tdiv_eq_ediv_of_nonneg (by omega)
    have e3 : m % 256 % 256 = m % 256 := by omega
    rw [if_pos hd'.1, Option.bind_some, strOfNums_size, if_pos (by simp; omega), e1, e2, e3, w64 _ (by omega) (by omega)]
    rw [ih (m / 256) (strOfNums [m % 256] ++ s) k hd'.2 (by rw [size_app, strOfNums_size]; simp; omega) (by omega) (by omega)]
    rw [beL_snoc, ← List.cons_append, strOf_append, app_assoc]
    have e4 : (d + (strOfNums [m % 256] ++ s).size : Nat) = d + 1 + s.size := by rw [size_app, strOfNums_size]; simp; omega
    rw [e4]
theorem refPut_eq (n : Int) (hw : -9223372036854775808 ≤ n ∧ n ≤ 9223372036854775807) (k : Nat) (hk : 11 ≤ k) : primerref01_Put.f k n = some (strOfNums (putL n)) := by
  unfold primerref01_Put.f
  obtain ⟨k, rfl⟩ : ∃ j, k = j + 1 + 1 := ⟨k - 2, by omega⟩
  unfold putL
  by_cases h1 : n < -9007199254740992
  · rw [if_pos h1, if_pos (.inl h1)]
    simp only [primerref01_Put.j0, if_true]
    rfl
  · rw [if_neg h1]
    by_cases h2 : 9007199254740992 < n
    · rw [if_pos (.inr h2)]
      have : decide (n > 9007199254740992) = true := by simp; omega
      rw [this]
      simp only [primerref01_Put.j0, if_true]
      rfl
    · rw [if_neg (by omega)]
      have : decide (n > 9007199254740992) = false := by simp; omega
      rw [this]
      simp only [primerref01_Put.j0, Bool.false_eq_true, if_false, primerref01_Put.j1]
      by_cases h3 : n < 0
      · have h7 := nb_le (-n)
        rw [if_pos h3, if_pos h3, w64 _ (by omega) (by omega), refPut_l0 128 (by omega) (nb (-n)) (-n) _ k (digs_nb _ (by omega) (by omega)) (by show nb (-n) + 0 ≤ 7; omega) (by omega) (by omega), app_empty]
        rfl
      · have h7 := nb_le n
        rw [if_neg h3, if_neg h3, refPut_l0 0 (by omega) (nb n) n _ k (digs_nb _ (by omega) (by omega)) (by show nb n + 0 ≤ 7; omega) (by omega) (by omega), app_empty, Int.zero_add]
        rfl
end Go.Proofs.Ytnajmemcdipknaa.PK
namespace Go.Proofs.Ytnajmemcdipknaa.PK
open Go.RowKit Go.Proofs.YtnajmemcdipknaaW.PrintWords Go.Proofs.YtnajmemcdipknaaW.PrintLast Go.Proofs.YtnajmemcdipknaaW.PrintMore
set_option linter.unusedVariables false
set_option linter.unusedSimpArgs false
set_option maxRecDepth 100000
def nanB (b : Nat) : Bool := decide (9218868437227405312 < b % 9223372036854775808)
def canonB (b : Nat) : Nat := if nanB b then 9221120237041090561 else if b % 9223372036854775808 = 0 then 0 else b
theorem canonB_lt {b : Nat} (h : b < 18446744073709551616) : canonB b < 18446744073709551616 := by
  unfold canonB; split
  · decide
  · split <;> omega
theorem canonB_idem (b : Nat) : canonB (canonB b) = canonB b := by
  by_cases h : nanB b = true
  · have e : canonB b = 9221120237041090561 := by unfold canonB; rw [if_pos h]
    rw [e]; decide
  · by_cases h0 : b % 9223372036854775808 = 0
    · have e : canonB b = 0 := by unfold canonB; rw [if_neg h, if_pos h0]
      rw [e]; decide
    · have e : canonB b = b := by unfold canonB; rw [if_neg h, if_neg h0]
      rw [e, e]
theorem read_nan {b : Nat} (h : nanB b = true) : ∃ s f, (FloatKind.format .f64).read b = .nan s f := by
  have h : 9218868437227405312 < b % 9223372036854775808 := by simpa [nanB] using h
  show ∃ s f, Ieee.Format.read Ieee.double b = .nan s f
  unfold Ieee.Format.read
  rw [show Ieee.double.signWeight = 9223372036854775808 from rfl, show Ieee.double.binade = 4503599627370496 from rfl, show Ieee.double.infRung = 9218868437227405312 from rfl]
  simp only
  rw [if_neg (by omega), if_neg (by omega), if_neg (by omega)]
  exact ⟨_, _, rfl⟩
theorem order_nan {b c : Nat} (h : nanB b = true) : (FloatKind.format .f64).order b c = none := by
  obtain ⟨s, f, e⟩ := read_nan h
  unfold Ieee.Format.order
  rw [e]
  rfl
theorem read_num {b : Nat} (h : nanB b = false) : (∃ s, (FloatKind.format .f64).read b = .infinity s ∧ b % 9223372036854775808 ≠ 0) ∨ ∃ s m p, (FloatKind.format .f64).read b = .number s m p ∧ (m = 0 ↔ b % 9223372036854775808 = 0) := by
  have h : ¬ 9218868437227405312 < b % 9223372036854775808 := by simpa [nanB] using h
  show (∃ s, Ieee.Format.read Ieee.double b = _ ∧ _) ∨ ∃ s m p, Ieee.Format.read Ieee.double b = _ ∧ _
  unfold Ieee.Format.read
  rw [show Ieee.double.signWeight = 9223372036854775808 from rfl, show Ieee.double.binade = 4503599627370496 from rfl, show Ieee.double.infRung = 9218868437227405312 from rfl]
  simp only
  by_cases h1 : b % 9223372036854775808 < 4503599627370496
  · exact .inr ⟨_, _, _, by rw [if_pos h1], by omega⟩
  · by_cases h2 : b % 9223372036854775808 < 9218868437227405312
    · exact .inr ⟨_, _, _, by rw [if_neg h1, if_pos h2], by omega⟩
    · exact .inl ⟨_, by rw [if_neg h1, if_neg h2, if_pos (by omega)], by omega⟩
theorem cmp_self (n : Int) : compare n n = .eq := by simp
theorem order_self {b : Nat} (h : nanB b = false) : (FloatKind.format .f64).order b b = some .eq := by
  unfold Ieee.Format.order
  rcases read_num h with ⟨s, e, _⟩ | ⟨s, m, p, e, _⟩
  · rw [e]; cases s <;> rfl
  · rw [e]
    simp only [Ieee.Datum.order]
    congr 1
    exact cmp_self _
theorem signed_zero (s : Bool) (m k : Nat) : Ieee.signed s m k = 0 ↔ m = 0 := by
  unfold Ieee.signed
  have hp : (m <<< k = 0) ↔ m = 0 := by
    rw [Nat.shiftLeft_eq, Nat.mul_eq_zero]
    have : 2 ^ k ≠ 0 := Nat.ne_of_gt (Nat.two_pow_pos k)
    simp [this]
  cases s
  · simp only [Bool.false_eq_true, if_false]; omega
  · simp only [if_true]; omega
theorem read_zero : (FloatKind.format .f64).read 0 = .number false 0 (-1074) := by decide +kernel
theorem order_zero {b : Nat} (h : nanB b = false) : ((FloatKind.format .f64).order b 0 == some .eq) = decide (b % 9223372036854775808 = 0) := by
  unfold Ieee.Format.order
  rw [read_zero]
  rcases read_num h with ⟨s, e, h0⟩ | ⟨s, m, p, e, h0⟩
  · rw [e]; cases s <;> simp [Ieee.Datum.order, h0]
  · rw [e]
    simp only [Ieee.Datum.order]
    rw [Bool.eq_iff_iff]
    simp only [beq_iff_eq, Option.some.injEq, decide_eq_true_eq, Int.compare_eq_eq]
    rw [(signed_zero false 0 _).mpr rfl, signed_zero, h0]
theorem bits_run (b : Nat) (w : World) : (callFunc 104 #[.float .f64 b]).run Try.prog w = .ok (.value (.int .u64 b)) w := by
  rw [run_callFunc_extern (e := Extern.MathFloatBits.float64bits) Try.func104 (by kernel_rfl) (by kernel_rfl) (by kernel_rfl) (by kernel_rfl)]
  rfl
theorem frombits_run (n : Int) (w : World) : (callFunc 81 #[.int .u64 n]).run Try.prog w = .ok (.value (.float .f64 n.toNat)) w := by
  rw [run_callFunc_extern (e := Extern.MathFloatBits.float64frombits) Try.func81 (by kernel_rfl) (by kernel_rfl) (by kernel_rfl) (by kernel_rfl)]
  rfl
theorem none_calls (w : World) : Calls Try.prog 134 #[] w fun e w' => e = .returned (.float .f64 9221120237041090561) ∧ w = w' := by
  have hf := frombits_run 9221120237041090561
  go_enter Try.func134, Try.ntmps134
  go_wp2
  go_ret
  exact ⟨rfl, rfl⟩
theorem none2_calls (w : World) : Calls Try.prog 136 #[] w fun e w' => e = .returned (.float .f64 9221120237041090561) ∧ w = w' := by
  have hf := frombits_run 9221120237041090561
  go_enter Try.func136, Try.ntmps136
  go_wp2
  go_ret
  exact ⟨rfl, rfl⟩
theorem canon_calls (b : Nat) (hb : b < 18446744073709551616) (w : World) : Calls Try.prog 105 #[.float .f64 b] w fun e w' => e = .returned (.float .f64 (canonB b)) ∧ w = w' := by
  cases hn : nanB b
  · have h1 : ((FloatKind.format .f64).order b b != some .eq) = false := by rw [order_self hn]; rfl
    have h2 := order_zero hn
    by_cases h0 : b % 9223372036854775808 = 0
    · have e : canonB b = 0 := by unfold canonB; rw [hn, if_neg (by simp), if_pos h0]
      rw [show decide (b % 9223372036854775808 = 0) = true by simp [h0]] at h2
      have E := Aside0.mk e
      clear hn h0 e
      go_enter Try.func105, Try.ntmps105
      go_wp2
      go_ret
      exact ⟨by rw [E.out]; rfl, rfl⟩
    · have e : canonB b = b := by unfold canonB; rw [hn, if_neg (by simp), if_neg h0]
      rw [show decide (b % 9223372036854775808 = 0) = false by simp [h0]] at h2
      have E := Aside0.mk e
      clear hn h0 e
      go_enter Try.func105, Try.ntmps105
      go_wp2
      go_ret
      exact ⟨by rw [E.out]; rfl, rfl⟩
  · have h1 : ((FloatKind.format .f64).order b b != some .eq) = true := by rw [order_nan hn]; rfl
    have e : canonB b = 9221120237041090561 := by unfold canonB; rw [if_pos hn]
    have E := Aside0.mk e
    clear hn e
    go_enter Try.func105, Try.ntmps105
    go_wp2_with (go_at_call 134; refine (none_calls _).mono ?_; rintro e w' ⟨rfl, rfl⟩)
    go_ret
    exact ⟨by rw [E.out]; rfl, rfl⟩
theorem ofInt_u64 (a : Nat) (ha : a < 18446744073709551616) : (BitVec.ofInt 64 (a : Int)).toNat = a := by
  rw [BitVec.ofInt_natCast, BitVec.toNat_ofNat]; exact Nat.mod_eq_of_lt (by omega)
theorem u64_and_nat (a b : Nat) (ha : a < 18446744073709551616) (hb : b < 18446744073709551616) : Go.bits .and .u64 (a : Int) (b : Int) = ((a &&& b : Nat) : Int) := by
  have hx : a &&& b ≤ a := Nat.and_le_left
  show IntKind.u64.wrap ((BitVec.ofInt 64 (a : Int) &&& BitVec.ofInt 64 (b : Int)).toNat : Int) = _
  rw [BitVec.toNat_and, ofInt_u64 a ha, ofInt_u64 b hb]
  exact IntWalk.u64_in _ (by omega)
theorem and_low (n : Nat) (hn : n < 18446744073709551616) : Go.bits .and .u64 (n : Int) 4503599627370495 = ((n % 4503599627370496 : Nat) : Int) := by
  have h := u64_and_nat n 4503599627370495 hn (by omega)
  rw [show (4503599627370495 : Nat) = 2 ^ 52 - 1 from rfl, Nat.and_two_pow_sub_one_eq_mod] at h
  exact h
theorem nat_and_high (n : Nat) : n &&& 9218868437227405312 = n / 4503599627370496 % 2048 * 4503599627370496 := by
  have e : n / 4503599627370496 % 2048 * 4503599627370496 = ((n >>> 52) &&& (2 ^ 11 - 1)) <<< 52 := by
    rw [Nat.and_two_pow_sub_one_eq_mod, Nat.shiftLeft_eq, Nat.shiftRight_eq_div_pow]
  rw [e, show (9218868437227405312 : Nat) = (2 ^ 11 - 1) <<< 52 from rfl]
  apply Nat.eq_of_testBit_eq
  intro i
  simp only [Nat.testBit_and, Nat.testBit_shiftLeft, Nat.testBit_shiftRight]
  by_cases h : 52 ≤ i
  · have : 52 + (i - 52) = i := by omega
    simp [h, this]
  · simp [h]
theorem and_high (n : Nat) (hn : n < 18446744073709551616) : Go.bits .and .u64 (n : Int) 9218868437227405312 = ((n / 4503599627370496 % 2048 * 4503599627370496 : Nat) : Int) := by
  have h := u64_and_nat n 9218868437227405312 hn (by omega)
  rw [nat_and_high] at h
  exact h
theorem nanB_parts (b : Nat) : nanB b = (decide (b / 4503599627370496 % 2048 * 4503599627370496 = 9218868437227405312) && decide (b % 4503599627370496 ≠ 0)) := by
  unfold nanB
  rw [Bool.eq_iff_iff]
  simp only [decide_eq_true_eq, Bool.and_eq_true]
  omega
theorem nan_calls (b : Nat) (hb : b < 18446744073709551616) (w : World) : Calls Try.prog 135 #[.float .f64 b] w fun e w' => e = .returned (.bool (nanB b)) ∧ w = w' := by
  have hf := bits_run b
  have h1 := and_low b hb
  have h2 := and_high b hb
  have hp := nanB_parts b
  obtain ⟨lo, hlo⟩ : ∃ lo, b % 4503599627370496 = lo := ⟨_, rfl⟩
  obtain ⟨hi, hhi⟩ : ∃ hi, b / 4503599627370496 % 2048 * 4503599627370496 = hi := ⟨_, rfl⟩
  rw [hlo] at h1 hp
  rw [hhi] at h2 hp
  clear hlo hhi
  have HP := Aside0.mk hp
  clear hp hb
  by_cases c1 : hi = 9218868437227405312
  · have c1' : ((hi : Int) == 9218868437227405312) = true := by rw [beq_iff_eq]; omega
    by_cases c2 : lo = 0
    · have c2' : ((lo : Int) != 0) = false := by rw [bne_eq_false_iff_eq]; omega
      have HN : Aside0 (nanB b = false) := ⟨by rw [HP.out]; simp [c2]⟩
      clear c1 c2
      go_enter Try.func135, Try.ntmps135
      go_wp2
      go_ret
      exact ⟨by rw [HN.out]; rfl, rfl⟩
    · have c2' : ((lo : Int) != 0) = true := by rw [bne_iff_ne]; omega
      have HN : Aside0 (nanB b = true) := ⟨by rw [HP.out]; simp [c1, c2]⟩
      clear c1 c2
      go_enter Try.func135, Try.ntmps135
      go_wp2
      go_ret
      exact ⟨by rw [HN.out]; rfl, rfl⟩
  · have c1' : ((hi : Int) == 9218868437227405312) = false := by rw [beq_eq_false_iff_ne]; omega
    have HN : Aside0 (nanB b = false) := ⟨by rw [HP.out]; simp [c1]⟩
    clear c1
    go_enter Try.func135, Try.ntmps135
    go_wp2
    go_ret
    exact ⟨by rw [HN.out]; rfl, rfl⟩
theorem canon2_calls (b : Nat) (hb : b < 18446744073709551616) (w : World) : Calls Try.prog 106 #[.float .f64 b] w fun e w' => e = .returned (.float .f64 (canonB b)) ∧ w = w' := by
  cases hn : nanB b
  · have HNN := Aside0.mk hn
    have hf := bits_run b
    by_cases h0 : b = 9223372036854775808
    · have h0' : ((b : Int) == 9223372036854775808) = true := by rw [beq_iff_eq]; omega
      have e : canonB b = 0 := by unfold canonB; rw [hn, if_neg (by simp), if_pos (by omega)]
      have E := Aside0.mk e
      have HB := Aside0.mk hb
      clear hn h0 e hb
      go_enter Try.func106, Try.ntmps106
      go_wp2_with (go_at_call 135; refine (nan_calls b HB.out _).mono ?_; rintro e w' ⟨rfl, rfl⟩; rw [HNN.out])
      go_ret
      exact ⟨by rw [E.out]; rfl, rfl⟩
    · have h0' : ((b : Int) == 9223372036854775808) = false := by rw [beq_eq_false_iff_ne]; omega
      have e : canonB b = b := by
        unfold canonB; rw [hn, if_neg (by simp)]
        split
        · omega
        · rfl
      have E := Aside0.mk e
      have HB := Aside0.mk hb
      clear hn h0 e hb
      go_enter Try.func106, Try.ntmps106
      go_wp2_with (go_at_call 135; refine (nan_calls b HB.out _).mono ?_; rintro e w' ⟨rfl, rfl⟩; rw [HNN.out])
      go_ret
      exact ⟨by rw [E.out]; rfl, rfl⟩
  · have e : canonB b = 9221120237041090561 := by unfold canonB; rw [if_pos hn]
    have E := Aside0.mk e
    have HNN := Aside0.mk hn
    have HB := Aside0.mk hb
    clear hn e hb
    go_enter Try.func106, Try.ntmps106
    go_wp2_with (first
      | (go_at_call 135; refine (nan_calls b HB.out _).mono ?_; rintro e w' ⟨rfl, rfl⟩; rw [HNN.out])
      | (go_at_call 136; refine (none2_calls _).mono ?_; rintro e w' ⟨rfl, rfl⟩))
    go_ret
    exact ⟨by rw [E.out]; rfl, rfl⟩
end Go.Proofs.Ytnajmemcdipknaa.PK
namespace Go.Proofs.Ytnajmemcdipknaa.PK
open Go.RowKit Go.Proofs.YtnajmemcdipknaaW.PrintWords Go.Proofs.YtnajmemcdipknaaW.PrintLast Go.Proofs.YtnajmemcdipknaaW.PrintMore
set_option linter.unusedVariables false
set_option linter.unusedSimpArgs false
set_option maxRecDepth 100000
end Go.Proofs.Ytnajmemcdipknaa.PK
namespace Go.Proofs.Ytnajmemcdipknaa.PK
open Go.RowKit Go.Proofs.YtnajmemcdipknaaW.PrintWords Go.Proofs.YtnajmemcdipknaaW.PrintLast Go.Proofs.YtnajmemcdipknaaW.PrintMore
open Go.ChangeShapes Go.WideShapes
set_option linter.unusedVariables false
set_option linter.unusedSimpArgs false
set_option maxRecDepth 100000
/-- Whatever reads as a datum of this type has cells that say a value of this kind. -/
def Opens {α : Type} (P : Program) (W : World) (T : TypeId) (d : Kd α) (wf : α → Prop) : Prop :=
  ∀ (H : Type) (enc : TypeId × Value → H) (base : Nat) (spare : Nat → Bool) (held : Bool) (fuel : Nat) (cs : List Value) (x : DataW H × List MemPlace), DataW.trod enc P W base spare held fuel T cs = some x → ∃ y, d.K W y cs ∧ wf y
theorem opens_int {P : Program} {W : World} {T : TypeId} {k : IntKind} (ht : P.underlying T = some (.int k)) : Opens P W T (Kd.int k) (fun n => (Lit.int k n).wf = true) := by
  intro H enc base spare held fuel cs x h
  obtain ⟨n, rfl, _, hw⟩ := DataW.trod_int ht h
  exact ⟨n, rfl, hw⟩
theorem opens_string {P : Program} {W : World} {T : TypeId} (ht : P.underlying T = some .string) : Opens P W T Kd.string (fun s => s.size ≤ 9223372036854775807) := by
  intro H enc base spare held fuel cs x h
  obtain ⟨s, rfl, _, hs⟩ := DataW.trod_string ht h
  exact ⟨s, rfl, by unfold maxLen at hs; exact hs⟩
theorem list_of {α : Type} {n : Nat} {p : Nat → α → Prop} (h : ∀ i, i < n → ∃ y, p i y) : ∃ xs : List α, xs.length = n ∧ ∀ i y, xs[i]? = some y → p i y := by
  induction n with
  | zero => exact ⟨[], rfl, fun i y hy => by simp at hy⟩
  | succ n ih =>
    obtain ⟨xs, hl, hx⟩ := ih (fun i hi => h i (by omega))
    obtain ⟨y, hy⟩ := h n (by omega)
    refine ⟨xs ++ [y], by simp [hl], fun i z hz => ?_⟩
    rcases Nat.lt_or_ge i n with hi | hi
    · rw [List.getElem?_append_left (by omega)] at hz
      exact hx i z hz
    · rw [List.getElem?_append_right (by omega)] at hz
      have : i = n := by
        have := (List.getElem?_eq_some_iff.1 hz).1
        simp at this
        omega
      subst this
      simp [hl] at hz
      subst hz
      exact hy
theorem opens_slice {α : Type} {P : Program} {W : World} {T e : TypeId} {d : Kd α} {wf : α → Prop} (ht : P.underlying T = some (.slice e)) (hc : P.cellsOf e = d.sz) (ho : Opens P W e d wf) :
    Opens P W T (Kd.slice e d) (fun xs => xs.length ≤ 9223372036854775807 ∧ ∀ x ∈ xs, wf x) := by
  intro H enc base spare held fuel cs x h
  rcases Deep.open_slice ht h with ⟨rfl, _⟩ | ⟨a, len, cap, m, n, D, Pl, rfl, hb, hl, hm, hmm, _, hel⟩
  · exact ⟨[], ⟨none, 0, rfl, Nat.zero_le _, rfl, by simp, fun h => absurd h (by simp)⟩, by simp, fun x hx => by simp at hx⟩
  · unfold maxLen at hm
    have hlm : len ≤ m := by rw [hmm]; split <;> omega
    obtain ⟨xs, hxl, hxs⟩ := list_of (n := len) (p := fun i y => wf y ∧ ∃ c : List Value, c.length = d.sz ∧ d.K W y c ∧ ∀ j u, c[j]? = some u → W.cell? (a.add (i * d.sz + j)) = some u) (fun i hi => by
      obtain ⟨c, h1, h2⟩ := hel i (by omega)
      obtain ⟨y, hy, hw⟩ := ho H enc base spare held n c _ h2
      obtain ⟨_, hcl, hcc⟩ := World.cells?_some h1
      refine ⟨y, hw, c, by rw [hcl, hc], hy, fun j u hu => ?_⟩
      have hj : j < P.cellsOf e := by
        have := (List.getElem?_eq_some_iff.1 hu).1
        omega
      have := hcc j hj
      rw [Deep.add_add, hc, hu] at this
      exact this)
    refine ⟨xs, ⟨some a, cap, by rw [hxl], by omega, rfl, by omega, fun _ => ⟨a, rfl, fun j p hp => ?_⟩⟩, by omega, fun x hx => ?_⟩
    · obtain ⟨_, c, h1, h2, h3⟩ := hxs j p hp
      exact ⟨c, h1, h2, h3⟩
    · obtain ⟨i, hi, rfl⟩ := List.getElem_of_mem hx
      exact (hxs i _ (List.getElem?_eq_getElem hi)).1
theorem i64_wf {n : Int} (h : (Lit.int .i64 n).wf = true) : -9223372036854775808 ≤ n ∧ n ≤ 9223372036854775807 := by
  have := (Lit.wf_int_iff .i64 n).mp h
  simpa [IntKind.min, IntKind.max, IntKind.signed, IntKind.bits] using this
end Go.Proofs.Ytnajmemcdipknaa.PK
namespace Go.Proofs.Ytnajmemcdipknaa.PK
open Go.RowKit Go.Proofs.YtnajmemcdipknaaW.PrintWords Go.Proofs.YtnajmemcdipknaaW.PrintLast Go.Proofs.YtnajmemcdipknaaW.PrintMore
set_option linter.unusedVariables false
set_option linter.unusedSimpArgs false
set_option maxRecDepth 100000
def putM (b : Nat) : ByteArray := strOfNums (beL 8 (canonB b))
def mArr (n : Nat) (j : Nat) : Array Value := match j with
  | 0 => #[.int .u8 0, .int .u8 0, .int .u8 0, .int .u8 0, .int .u8 0, .int .u8 0, .int .u8 0, .int .u8 0]
  | 1 => #[.int .u8 ((n : Int) / 72057594037927936 % 256), .int .u8 0, .int .u8 0, .int .u8 0, .int .u8 0, .int .u8 0, .int .u8 0, .int .u8 0]
  | 2 => #[.int .u8 ((n : Int) / 72057594037927936 % 256), .int .u8 ((n : Int) / 281474976710656 % 256), .int .u8 0, .int .u8 0, .int .u8 0, .int .u8 0, .int .u8 0, .int .u8 0]
  | 3 => #[.int .u8 ((n : Int) / 72057594037927936 % 256), .int .u8 ((n : Int) / 281474976710656 % 256), .int .u8 ((n : Int) / 1099511627776 % 256), .int .u8 0, .int .u8 0, .int .u8 0, .int .u8 0, .int .u8 0]
  | 4 => #[.int .u8 ((n : Int) / 72057594037927936 % 256), .int .u8 ((n : Int) / 281474976710656 % 256), .int .u8 ((n : Int) / 1099511627776 % 256), .int .u8 ((n : Int) / 4294967296 % 256), .int .u8 0, .int .u8 0, .int .u8 0, .int .u8 0]
  | 5 => #[.int .u8 ((n : Int) / 72057594037927936 % 256), .int .u8 ((n : Int) / 281474976710656 % 256), .int .u8 ((n : Int) / 1099511627776 % 256), .int .u8 ((n : Int) / 4294967296 % 256), .int .u8 ((n : Int) / 16777216 % 256), .int .u8 0, .int .u8 0, .int .u8 0]
  | 6 => #[.int .u8 ((n : Int) / 72057594037927936 % 256), .int .u8 ((n : Int) / 281474976710656 % 256), .int .u8 ((n : Int) / 1099511627776 % 256), .int .u8 ((n : Int) / 4294967296 % 256), .int .u8 ((n : Int) / 16777216 % 256), .int .u8 ((n : Int) / 65536 % 256), .int .u8 0, .int .u8 0]
  | 7 => #[.int .u8 ((n : Int) / 72057594037927936 % 256), .int .u8 ((n : Int) / 281474976710656 % 256), .int .u8 ((n : Int) / 1099511627776 % 256), .int .u8 ((n : Int) / 4294967296 % 256), .int .u8 ((n : Int) / 16777216 % 256), .int .u8 ((n : Int) / 65536 % 256), .int .u8 ((n : Int) / 256 % 256), .int .u8 0]
  | _ => #[.int .u8 ((n : Int) / 72057594037927936 % 256), .int .u8 ((n : Int) / 281474976710656 % 256), .int .u8 ((n : Int) / 1099511627776 % 256), .int .u8 ((n : Int) / 4294967296 % 256), .int .u8 ((n : Int) / 16777216 % 256), .int .u8 ((n : Int) / 65536 % 256), .int .u8 ((n : Int) / 256 % 256), .int .u8 ((n : Int) % 256)]
theorem beL_eight (n : Int) : beL 8 n = [n / 72057594037927936 % 256, n / 281474976710656 % 256, n / 1099511627776 % 256, n / 4294967296 % 256, n / 16777216 % 256, n / 65536 % 256, n / 256 % 256, n % 256] := by
  simp only [beL, show (256 : Int) ^ 7 = 72057594037927936 from rfl, show (256 : Int) ^ 6 = 281474976710656 from rfl, show (256 : Int) ^ 5 = 1099511627776 from rfl, show (256 : Int) ^ 4 = 4294967296 from rfl, show (256 : Int) ^ 3 = 16777216 from rfl, show (256 : Int) ^ 2 = 65536 from rfl, show (256 : Int) ^ 1 = 256 from rfl, show (256 : Int) ^ 0 = 1 from rfl, Int.ediv_one]
theorem C_eight {w : World} {g : Nat} {T : TypeId} {a b c d e f h i : Int} (hb : w.heap[g]? = some (.cells #[.int .u8 a, .int .u8 b, .int .u8 c, .int .u8 d, .int .u8 e, .int .u8 f, .int .u8 h, .int .u8 i] T (0, 0))) : Kd.C (Kd.int .u8) w (some ⟨g, 0, none⟩) 8 [a, b, c, d, e, f, h, i] := by
  refine Kd.C_of_reads (enc := Value.int .u8) (d := (0 : Int)) ⟨rfl, by decide, fun _ => ⟨_, rfl, fun j hj => ?_⟩⟩
  have hadd : (⟨g, 0, none⟩ : Addr).add j = ⟨g, j, none⟩ := by unfold Addr.add; split <;> simp_all
  rw [hadd, blk_cell hb]
  rcases (show j = 0 ∨ j = 1 ∨ j = 2 ∨ j = 3 ∨ j = 4 ∨ j = 5 ∨ j = 6 ∨ j = 7 from by omega) with rfl | rfl | rfl | rfl | rfl | rfl | rfl | rfl <;> rfl
theorem C_one {w : World} {g : Nat} {T : TypeId} {a : Int} (hb : w.heap[g]? = some (.cells #[.int .u8 a] T (0, 0))) : Kd.C (Kd.int .u8) w (some ⟨g, 0, none⟩) 1 [a] := by
  refine Kd.C_of_reads (enc := Value.int .u8) (d := (0 : Int)) ⟨rfl, by decide, fun _ => ⟨_, rfl, fun j hj => ?_⟩⟩
  obtain rfl : j = 0 := by omega
  show w.cell? ⟨g, 0, none⟩ = _
  rw [blk_cell hb]
  rfl
theorem str_nil_app (x : ByteArray) : strOfNums (beL (8 - 8) 0) ++ x = x := by
  apply bytesOf_inj
  rw [bytesOf_append]
  rfl
set_option maxHeartbeats 1600000 in
theorem mput_calls (b : Nat) (hb : b < 18446744073709551616) (w : World) : Calls Try.prog 65 #[.float .f64 b] w fun e w' => e = .returned (.string (putM b)) ∧ Below w.heap.size w w' := by
  obtain ⟨n, hn⟩ : ∃ n, canonB b = n := ⟨_, rfl⟩
  have hlt := canonB_lt hb
  have hc := canon_calls b hb
  rw [hn] at hc hlt
  have HC := Aside0.mk hc
  have HN := Aside0.mk hn
  have HL := Aside0.mk hlt
  clear hn hb hc hlt
  have hf := bits_run n
  go_enter Try.func65, Try.ntmps65
  go_wp2_with fail
  refine (HC.out _).mono ?_
  rintro e w' ⟨rfl, rfl⟩
  go_wp2_with fail
  go_loopw [9] (fun i wr => ∃ j : Nat, j ≤ 8 ∧ i = .int .i64 j ∧ Aside0 (wr.heap[w.heap.size]? = some (.cells (mArr n j) 164 (0, 0))) ∧ Aside0 (Below w.heap.size w wr)) (fun i _ => 8 - (intOf i).toNat)
  case atStart => exact ⟨0, Nat.zero_le _, rfl, ⟨heap_alloc_new w _⟩, ⟨below_alloc (Below.refl _ _) _⟩⟩
  case round =>
    obtain ⟨j, hj, rfl, HM, HB⟩ := hrel
    rcases (show j = 0 ∨ j = 1 ∨ j = 2 ∨ j = 3 ∨ j = 4 ∨ j = 5 ∨ j = 6 ∨ j = 7 ∨ j = 8 from by omega) with rfl | rfl | rfl | rfl | rfl | rfl | rfl | rfl | rfl
    · have HX : Aside0 (wr.heap[w.heap.size]? = some (.cells #[.int .u8 0, .int .u8 0, .int .u8 0, .int .u8 0, .int .u8 0, .int .u8 0, .int .u8 0, .int .u8 0] 164 (0, 0))) := ⟨HM.out⟩
      have hz : wr.cell? ⟨w.heap.size, 0, none⟩ = some (.int .u8 0) := (blk_cell HX.out 0).trans rfl
      have hfz : wr.frozen? ⟨w.heap.size, 0, none⟩ = false := blk_frozen HX.out 0
      clear HM
      go_wp2_with fail
      go_roundw
      case rel => exact ⟨1, by omega, rfl, ⟨Blk.set_ (show Blk wr w.heap.size 164 #[.int .u8 0, .int .u8 0, .int .u8 0, .int .u8 0, .int .u8 0, .int .u8 0, .int .u8 0, .int .u8 0] from HX.out) 0 _⟩, ⟨below_set HB.out (Nat.le_refl _)⟩⟩
      case measure => simp [intOf]
    · have HX : Aside0 (wr.heap[w.heap.size]? = some (.cells #[.int .u8 ((n : Int) / 72057594037927936 % 256), .int .u8 0, .int .u8 0, .int .u8 0, .int .u8 0, .int .u8 0, .int .u8 0, .int .u8 0] 164 (0, 0))) := ⟨HM.out⟩
      have hz : wr.cell? ⟨w.heap.size, 1, none⟩ = some (.int .u8 0) := (blk_cell HX.out 1).trans rfl
      have hfz : wr.frozen? ⟨w.heap.size, 1, none⟩ = false := blk_frozen HX.out 1
      clear HM
      go_wp2_with fail
      go_roundw
      case rel => exact ⟨2, by omega, rfl, ⟨Blk.set_ (show Blk wr w.heap.size 164 #[.int .u8 ((n : Int) / 72057594037927936 % 256), .int .u8 0, .int .u8 0, .int .u8 0, .int .u8 0, .int .u8 0, .int .u8 0, .int .u8 0] from HX.out) 1 _⟩, ⟨below_set HB.out (Nat.le_refl _)⟩⟩
      case measure => simp [intOf]
    · have HX : Aside0 (wr.heap[w.heap.size]? = some (.cells #[.int .u8 ((n : Int) / 72057594037927936 % 256), .int .u8 ((n : Int) / 281474976710656 % 256), .int .u8 0, .int .u8 0, .int .u8 0, .int .u8 0, .int .u8 0, .int .u8 0] 164 (0, 0))) := ⟨HM.out⟩
      have hz : wr.cell? ⟨w.heap.size, 2, none⟩ = some (.int .u8 0) := (blk_cell HX.out 2).trans rfl
      have hfz : wr.frozen? ⟨w.heap.size, 2, none⟩ = false := blk_frozen HX.out 2
      clear HM
      go_wp2_with fail
      go_roundw
      case rel => exact ⟨3, by omega, rfl, ⟨Blk.set_ (show Blk wr w.heap.size 164 #[.int .u8 ((n : Int) / 72057594037927936 % 256), .int .u8 ((n : Int) / 281474976710656 % 256), .int .u8 0, .int .u8 0, .int .u8 0, .int .u8 0, .int .u8 0, .int .u8 0] from HX.out) 2 _⟩, ⟨below_set HB.out (Nat.le_refl _)⟩⟩
      case measure => simp [intOf]
    · have HX : Aside0 (wr.heap[w.heap.size]? = some (.cells #[.int .u8 ((n : Int) / 72057594037927936 % 256), .int .u8 ((n : Int) / 281474976710656 % 256), .int .u8 ((n : Int) / 1099511627776 % 256), .int .u8 0, .int .u8 0, .int .u8 0, .int .u8 0, .int .u8 0] 164 (0, 0))) := ⟨HM.out⟩
      have hz : wr.cell? ⟨w.heap.size, 3, none⟩ = some (.int .u8 0) := (blk_cell HX.out 3).trans rfl
      have hfz : wr.frozen? ⟨w.heap.size, 3, none⟩ = false := blk_frozen HX.out 3
      clear HM
      go_wp2_with fail
      go_roundw
      case rel => exact ⟨4, by omega, rfl, ⟨Blk.set_ (show Blk wr w.heap.size 164 #[.int .u8 ((n : Int) / 72057594037927936 % 256), .int .u8 ((n : Int) / 281474976710656 % 256), .int .u8 ((n : Int) / 1099511627776 % 256), .int .u8 0, .int .u8 0, .int .u8 0, .int .u8 0, .int .u8 0] from HX.out) 3 _⟩, ⟨below_set HB.out (Nat.le_refl _)⟩⟩
      case measure => simp [intOf]
    · have HX : Aside0 (wr.heap[w.heap.size]? = some (.cells #[.int .u8 ((n : Int) / 72057594037927936 % 256), .int .u8 ((n : Int) / 281474976710656 % 256), .int .u8 ((n : Int) / 1099511627776 % 256), .int .u8 ((n : Int) / 4294967296 % 256), .int .u8 0, .int .u8 0, .int .u8 0, .int .u8 0] 164 (0, 0))) := ⟨HM.out⟩
      have hz : wr.cell? ⟨w.heap.size, 4, none⟩ = some (.int .u8 0) := (blk_cell HX.out 4).trans rfl
      have hfz : wr.frozen? ⟨w.heap.size, 4, none⟩ = false := blk_frozen HX.out 4
      clear HM
      go_wp2_with fail
      go_roundw
      case rel => exact ⟨5, by omega, rfl, ⟨Blk.set_ (show Blk wr w.heap.size 164 #[.int .u8 ((n : Int) / 72057594037927936 % 256), .int .u8 ((n : Int) / 281474976710656 % 256), .int .u8 ((n : Int) / 1099511627776 % 256), .int .u8 ((n : Int) / 4294967296 % 256), .int .u8 0, .int .u8 0, .int .u8 0, .int .u8 0] from HX.out) 4 _⟩, ⟨below_set HB.out (Nat.le_refl _)⟩⟩
      case measure => simp [intOf]
    · have HX : Aside0 (wr.heap[w.heap.size]? = some (.cells #[.int .u8 ((n : Int) / 72057594037927936 % 256), .int .u8 ((n : Int) / 281474976710656 % 256), .int .u8 ((n : Int) / 1099511627776 % 256), .int .u8 ((n : Int) / 4294967296 % 256), .int .u8 ((n : Int) / 16777216 % 256), .int .u8 0, .int .u8 0, .int .u8 0] 164 (0, 0))) := ⟨HM.out⟩
      have hz : wr.cell? ⟨w.heap.size, 5, none⟩ = some (.int .u8 0) := (blk_cell HX.out 5).trans rfl
      have hfz : wr.frozen? ⟨w.heap.size, 5, none⟩ = false := blk_frozen HX.out 5
      clear HM
      go_wp2_with fail
      go_roundw
      case rel => exact ⟨6, by omega, rfl, ⟨Blk.set_ (show Blk wr w.heap.size 164 #[.int .u8 ((n : Int) / 72057594037927936 % 256), .int .u8 ((n : Int) / 281474976710656 % 256), .int .u8 ((n : Int) / 1099511627776 % 256), .int .u8 ((n : Int) / 4294967296 % 256), .int .u8 ((n : Int) / 16777216 % 256), .int .u8 0, .int .u8 0, .int .u8 0] from HX.out) 5 _⟩, ⟨below_set HB.out (Nat.le_refl _)⟩⟩
      case measure => simp [intOf]
    · have HX : Aside0 (wr.heap[w.heap.size]? = some (.cells #[.int .u8 ((n : Int) / 72057594037927936 % 256), .int .u8 ((n : Int) / 281474976710656 % 256), .int .u8 ((n : Int) / 1099511627776 % 256), .int .u8 ((n : Int) / 4294967296 % 256), .int .u8 ((n : Int) / 16777216 % 256), .int .u8 ((n : Int) / 65536 % 256), .int .u8 0, .int .u8 0] 164 (0, 0))) := ⟨HM.out⟩
      have hz : wr.cell? ⟨w.heap.size, 6, none⟩ = some (.int .u8 0) := (blk_cell HX.out 6).trans rfl
      have hfz : wr.frozen? ⟨w.heap.size, 6, none⟩ = false := blk_frozen HX.out 6
      clear HM
      go_wp2_with fail
      go_roundw
      case rel => exact ⟨7, by omega, rfl, ⟨Blk.set_ (show Blk wr w.heap.size 164 #[.int .u8 ((n : Int) / 72057594037927936 % 256), .int .u8 ((n : Int) / 281474976710656 % 256), .int .u8 ((n : Int) / 1099511627776 % 256), .int .u8 ((n : Int) / 4294967296 % 256), .int .u8 ((n : Int) / 16777216 % 256), .int .u8 ((n : Int) / 65536 % 256), .int .u8 0, .int .u8 0] from HX.out) 6 _⟩, ⟨below_set HB.out (Nat.le_refl _)⟩⟩
      case measure => simp [intOf]
    · have HX : Aside0 (wr.heap[w.heap.size]? = some (.cells #[.int .u8 ((n : Int) / 72057594037927936 % 256), .int .u8 ((n : Int) / 281474976710656 % 256), .int .u8 ((n : Int) / 1099511627776 % 256), .int .u8 ((n : Int) / 4294967296 % 256), .int .u8 ((n : Int) / 16777216 % 256), .int .u8 ((n : Int) / 65536 % 256), .int .u8 ((n : Int) / 256 % 256), .int .u8 0] 164 (0, 0))) := ⟨HM.out⟩
      have hz : wr.cell? ⟨w.heap.size, 7, none⟩ = some (.int .u8 0) := (blk_cell HX.out 7).trans rfl
      have hfz : wr.frozen? ⟨w.heap.size, 7, none⟩ = false := blk_frozen HX.out 7
      clear HM
      go_wp2_with fail
      go_roundw
      case rel => exact ⟨8, by omega, rfl, ⟨Blk.set_ (show Blk wr w.heap.size 164 #[.int .u8 ((n : Int) / 72057594037927936 % 256), .int .u8 ((n : Int) / 281474976710656 % 256), .int .u8 ((n : Int) / 1099511627776 % 256), .int .u8 ((n : Int) / 4294967296 % 256), .int .u8 ((n : Int) / 16777216 % 256), .int .u8 ((n : Int) / 65536 % 256), .int .u8 ((n : Int) / 256 % 256), .int .u8 0] from HX.out) 7 _⟩, ⟨below_set HB.out (Nat.le_refl _)⟩⟩
      case measure => simp [intOf]
    · have HX : Aside0 (wr.heap[w.heap.size]? = some (.cells #[.int .u8 ((n : Int) / 72057594037927936 % 256), .int .u8 ((n : Int) / 281474976710656 % 256), .int .u8 ((n : Int) / 1099511627776 % 256), .int .u8 ((n : Int) / 4294967296 % 256), .int .u8 ((n : Int) / 16777216 % 256), .int .u8 ((n : Int) / 65536 % 256), .int .u8 ((n : Int) / 256 % 256), .int .u8 ((n : Int) % 256)] 164 (0, 0))) := ⟨HM.out⟩
      have hcv := Kd.C_string (P := Try.prog) (w := wr) (src := 62) (dst := 9) (e := 5) (A := some ⟨w.heap.size, 0, none⟩) (n := 8) (c := 8) Try.underlying62 Try.underlying5 Try.underlying9 (C_eight HX.out)
      obtain ⟨S, hS⟩ : ∃ S, strOfNums [(n : Int) / 72057594037927936 % 256, (n : Int) / 281474976710656 % 256, (n : Int) / 1099511627776 % 256, (n : Int) / 4294967296 % 256, (n : Int) / 16777216 % 256, (n : Int) / 65536 % 256, (n : Int) / 256 % 256, (n : Int) % 256] = S := ⟨_, rfl⟩
      rw [hS] at hcv
      have HS := Aside0.mk hS
      clear hS HM
      go_wp2
      go_ret
      exact ⟨by rw [show putM b = S from by unfold putM; rw [HN.out, beL_eight, HS.out]]; rfl, HB.out⟩
set_option maxHeartbeats 1600000 in
theorem mput2_calls (b : Nat) (hb : b < 18446744073709551616) (w : World) : Calls Try.prog 64 #[.float .f64 b] w fun e w' => e = .returned (.string (putM b)) ∧ Below w.heap.size w w' := by
  obtain ⟨n, hn⟩ : ∃ n, canonB b = n := ⟨_, rfl⟩
  have hlt := canonB_lt hb
  have hc := canon2_calls b hb
  rw [hn] at hc hlt
  have HC := Aside0.mk hc
  have HN := Aside0.mk hn
  have HL := Aside0.mk hlt
  clear hn hb hc hlt
  have hf := bits_run n
  go_enter Try.func64, Try.ntmps64
  go_wp2_with fail
  refine (HC.out _).mono ?_
  rintro e w' ⟨rfl, rfl⟩
  go_wp2_with fail
  go_loopw [3, 4, 5] (fun v s i wr => ∃ j : Nat, j ≤ 8 ∧ i = .int .i64 j ∧ ∃ (u : Int) (x : ByteArray), v = .int .u64 u ∧ s = .string x ∧ 0 ≤ u ∧ u ≤ 18446744073709551615 ∧ x.size = j ∧ Aside0 (strOfNums (beL (8 - j) u) ++ x = strOfNums (beL 8 n)) ∧ Aside0 (Below w.heap.size w wr)) (fun _ _ i _ => 8 - (intOf i).toNat)
  case atStart => exact ⟨0, Nat.zero_le _, rfl, n, ⟨#[]⟩, rfl, rfl, by omega, by have := HL.out; omega, rfl, ⟨app_empty _⟩, ⟨Below.refl _ _⟩⟩
  case round =>
    obtain ⟨j, hj, rfl, u, x, rfl, rfl, hu0, hu1, hxs, HE, HB⟩ := hrel
    by_cases hj8 : j < 8
    · have hd : decide ((j : Int) < 8) = true := by simp; omega
      have hcv := Kd.C_string (P := Try.prog) (w := wr.alloc (.cells #[.int .u8 (u % 256)] 5)) (src := 62) (dst := 9) (e := 5) (A := some ⟨wr.heap.size, 0, none⟩) (n := 1) (c := 1) Try.underlying62 Try.underlying5 Try.underlying9 (C_one (heap_alloc_new wr (.cells #[.int .u8 (u % 256)] 5)))
      obtain ⟨S, hS⟩ : ∃ S, strOfNums [u % 256] = S := ⟨_, rfl⟩
      have hsz : S.size = 1 := by rw [← hS, strOfNums_size]; rfl
      rw [hS] at hcv
      have HS := Aside0.mk hS
      have cs0 : S.size + x.size ≤ 9223372036854775807 := by omega
      have cs1 := eq_true cs0
      have cs2 : decide (S.size + x.size ≤ 9223372036854775807) = true := decide_eq_true cs0
      have cs3 : (9223372036854775807 < S.size + x.size) = False := eq_false (Nat.not_lt.2 cs0)
      have HSZ := Aside0.mk hsz
      have HXS := Aside0.mk hxs
      clear hS hsz hxs cs0
      go_wp2_with fail
      go_roundw
      case rel => exact ⟨j + 1, by omega, by go_num, u / 256, S ++ x, rfl, rfl, by omega, by omega, by have := HSZ.out; have := HXS.out; rw [size_app]; omega, ⟨by
        rw [← HE.out, ← HS.out, show 8 - j = (8 - (j + 1)) + 1 from by omega, beL_snoc, strOf_append, app_assoc]⟩, ⟨below_alloc HB.out _⟩⟩
      case measure => simp [intOf]; omega
    · have hj8' : j = 8 := by omega
      subst hj8'
      have HE2 : Aside0 (putM b = x) := ⟨by unfold putM; rw [HN.out, ← HE.out]; exact (str_nil_app x).symm⟩
      have hd : decide (((8 : Nat) : Int) < 8) = false := by simp
      clear hj8
      go_wp2
      go_ret
      exact ⟨by rw [HE2.out]; rfl, HB.out⟩
def valM (s : ByteArray) : Nat → Int
  | 0 => 0
  | j + 1 => valM s j * 256 + bt s (j : Int)
theorem valM_range (s : ByteArray) (j : Nat) : 0 ≤ valM s j ∧ valM s j < 256 ^ j := by
  induction j with
  | zero => exact ⟨Int.le_refl _, by show (0 : Int) < 1; decide⟩
  | succ j ih =>
    have hb := bt_range s (j : Int)
    have hp := p256_succ j
    simp only [valM]
    rw [hp]
    omega
theorem p256_le7 : ∀ j : Fin 8, (256 : Int) ^ j.val ≤ 72057594037927936 := by decide +kernel
theorem valM_le7 (s : ByteArray) (j : Nat) (h : j < 8) : 0 ≤ valM s j ∧ valM s j ≤ 72057594037927935 := by
  have h1 := valM_range s j
  have h2 := p256_le7 ⟨j, h⟩
  simp only [] at h2
  omega
theorem valM_le8 (s : ByteArray) : 0 ≤ valM s 8 ∧ valM s 8 ≤ 18446744073709551615 := by
  have h1 := valM_range s 8
  rw [show (256 : Int) ^ 8 = 18446744073709551616 from rfl] at h1
  omega
def getM (s : ByteArray) : Nat × Int := if s.size < 8 then (0, 3) else if 8 < s.size then (0, 4) else if canonB (valM s 8).toNat = (valM s 8).toNat then ((valM s 8).toNat, 0) else (0, 2)
theorem u64_or_nat (a b : Nat) (ha : a < 18446744073709551616) (hb : b < 18446744073709551616) : Go.bits .or .u64 (a : Int) (b : Int) = ((a ||| b : Nat) : Int) := by
  have hx : a ||| b < 2 ^ 64 := Nat.or_lt_two_pow (by omega) (by omega)
  show IntKind.u64.wrap ((BitVec.ofInt 64 (a : Int) ||| BitVec.ofInt 64 (b : Int)).toNat : Int) = _
  rw [BitVec.toNat_or, ofInt_u64 a ha, ofInt_u64 b hb]
  exact IntWalk.u64_in _ (by omega)
theorem or256u (n b : Int) (h0 : 0 ≤ n) (h1 : n ≤ 72057594037927935) (h2 : 0 ≤ b) (h3 : b ≤ 255) : Go.bits .or .u64 (n * 256) b = n * 256 + b := by
  obtain ⟨m, rfl⟩ := Int.eq_ofNat_of_zero_le h0
  obtain ⟨c, rfl⟩ := Int.eq_ofNat_of_zero_le h2
  have h := u64_or_nat (m * 256) c (by omega) (by omega)
  have e : m * 256 ||| c = m * 256 + c := by
    have := Nat.two_pow_add_eq_or_of_lt (b := c) (i := 8) (by omega) m
    rw [Nat.mul_comm m 256]
    exact this.symm
  rw [e] at h
  simp only [Int.natCast_add, Int.natCast_mul, Int.cast_ofNat_Int] at h
  exact h
set_option maxHeartbeats 1600000 in
theorem mget_calls (s : ByteArray) (w : World) : Calls Try.prog 62 #[.string s] w fun e w' => e = .returned (.tuple #[.float .f64 (getM s).1, .int .i64 (getM s).2]) ∧ w = w' := by
  by_cases h1 : s.size < 8
  · have e1 : decide ((s.size : Int) < 8) = true := by simp; omega
    have E : Aside0 (getM s = (0, 3)) := ⟨by unfold getM; rw [if_pos h1]⟩
    clear h1
    go_enter Try.func62, Try.ntmps62
    go_wp2
    go_ret2
    exact ⟨by rw [E.out]; rfl, rfl⟩
  by_cases h2 : 8 < s.size
  · have e1 : decide ((s.size : Int) < 8) = false := by simp; omega
    have e2 : decide ((8 : Int) < (s.size : Int)) = true := by simp; omega
    have E : Aside0 (getM s = (0, 4)) := ⟨by unfold getM; rw [if_neg h1, if_pos h2]⟩
    clear h1 h2
    go_enter Try.func62, Try.ntmps62
    go_wp2
    go_ret2
    exact ⟨by rw [E.out]; rfl, rfl⟩
  have e1 : decide ((s.size : Int) < 8) = false := by simp; omega
  have e2 : decide ((8 : Int) < (s.size : Int)) = false := by simp; omega
  have hs8 : s.size = 8 := by omega
  have EG : Aside0 (getM s = if canonB (valM s 8).toNat = (valM s 8).toNat then ((valM s 8).toNat, 0) else (0, 2)) := ⟨by unfold getM; rw [if_neg h1, if_neg h2]⟩
  have HS8 := Aside0.mk hs8
  clear h1 h2 hs8
  go_enter Try.func62, Try.ntmps62
  go_wp2_with fail
  go_loop [4, 15] (fun n i => ∃ j : Nat, j ≤ 8 ∧ i = .int .i64 j ∧ n = .int .u64 (valM s j)) (fun _ i => 8 - (intOf i).toNat)
  case atStart => exact ⟨0, Nat.zero_le _, rfl, rfl⟩
  case round =>
    obtain ⟨j, hj, rfl, rfl⟩ := hrel
    by_cases hlt : j < 8
    · obtain ⟨hv0, hv1⟩ := valM_le7 s j hlt
      have hbj := bt_range s (j : Int)
      have hor : Go.bits .or .u64 (valM s j * 256) (bt s (j : Int)) = valM s (j + 1) := or256u _ _ hv0 hv1 hbj.1 hbj.2
      have hx : ∀ h : j < s.size, ((s[j]'h).toNat : Int) = bt s (j : Int) := fun h => by
        have := bt_at s (j : Int) (by omega)
        rw [← this]
        rfl
      have q1 : (j < s.size) = True := eq_true (by have := HS8.out; omega)
      have q2 : ((j : Int) < (s.size : Int)) = True := eq_true (by have := HS8.out; omega)
      obtain ⟨hb0, hb1⟩ := hbj
      go_wp2
      go_round
      case rel => exact ⟨j + 1, by omega, by go_num, rfl⟩
      case measure => simp [intOf]; omega
    · obtain rfl : 8 = j := by omega
      obtain ⟨hv0, hv1⟩ := valM_le8 s
      obtain ⟨m, hm⟩ : ∃ m : Nat, valM s 8 = (m : Int) := ⟨(valM s 8).toNat, by omega⟩
      have hmn : (valM s 8).toNat = m := by omega
      rw [hmn] at EG
      rw [hm] at hv0 hv1 ⊢
      have HMB := Aside0.mk hv1
      clear hm hmn hv0 hv1 hlt hj
      have hfr := frombits_run (m : Int)
      have hbt := bits_run (canonB m)
      rw [Int.toNat_natCast] at hfr
      have hd : decide (((8 : Nat) : Int) < 8) = false := by simp
      by_cases hc : canonB m = m
      · have ht : ((canonB m : Int) != (m : Int)) = false := by rw [bne_eq_false_iff_eq, hc]
        have E2 : Aside0 (getM s = (m, 0)) := ⟨by rw [EG.out, if_pos hc]⟩
        clear hc
        go_wp2_with (go_at_call 105; (with_reducible refine (canon_calls m (by have := HMB.out; omega) _).mono ?_); rintro e w' ⟨rfl, rfl⟩)
        go_ret2
        exact ⟨by rw [E2.out]; rfl, rfl⟩
      · have ht : ((canonB m : Int) != (m : Int)) = true := by rw [bne_iff_ne]; omega
        have E2 : Aside0 (getM s = (0, 2)) := ⟨by rw [EG.out, if_neg hc]⟩
        clear hc
        go_wp2_with (go_at_call 105; (with_reducible refine (canon_calls m (by have := HMB.out; omega) _).mono ?_); rintro e w' ⟨rfl, rfl⟩)
        go_ret2
        exact ⟨by rw [E2.out]; rfl, rfl⟩
theorem bytes_eight (s : ByteArray) (h : s.size = 8) : bytesOf s = [bt s 0, bt s 1, bt s 2, bt s 3, bt s 4, bt s 5, bt s 6, bt s 7] := by
  have := bytes_take s 8 (by omega)
  rw [List.take_of_length_le (by rw [bytesOf_len]; omega)] at this
  rw [this]
  rfl
theorem beL_val (s : ByteArray) (h : s.size = 8) : beL 8 (valM s 8) = bytesOf s := by
  rw [bytes_eight s h, beL_eight]
  have h0 := bt_range s 0
  have h1 := bt_range s 1
  have h2 := bt_range s 2
  have h3 := bt_range s 3
  have h4 := bt_range s 4
  have h5 := bt_range s 5
  have h6 := bt_range s 6
  have h7 := bt_range s 7
  have e : valM s 8 = ((((((((0 * 256 + bt s 0) * 256 + bt s 1) * 256 + bt s 2) * 256 + bt s 3) * 256 + bt s 4) * 256 + bt s 5) * 256 + bt s 6) * 256 + bt s 7) := rfl
  rw [e]
  simp only [List.cons.injEq, and_true]
  omega
theorem beL8_inj (a b : Int) (ha : 0 ≤ a ∧ a ≤ 18446744073709551615) (hb : 0 ≤ b ∧ b ≤ 18446744073709551615) (h : beL 8 a = beL 8 b) : a = b := by
  rw [beL_eight, beL_eight] at h
  simp only [List.cons.injEq, and_true] at h
  omega
end Go.Proofs.Ytnajmemcdipknaa.PK
