/- Functions of the given program as plain Lean functions, and that the Go code answers what they tell (a law's row: the given statement, out of its plain form). Conditions: none beyond each theorem's own premises. Written by this repo's program wip/myprint.py.
What Put and Get tell, in plain numbers: Get undoes Put, and Get takes nothing but what Put makes; the document's Put and Get tell the same. Condition: none.
The document's Put and Get tell what the program's tell. Condition: none.
Marks: what no number is, and the mark as which a number counts: Canon of the program and of the document. Condition: none. -/
import Derived.Test.YtnajmemcdipknaaJb
import Derived.Test.YtnajmemcdipknaaJc
import Derived.Test.YtnajmemcdipknaaJd
import Derived.Test.YtnajmemcdipknaaJa
import Derived.WalkLawsBesides
namespace Go.Proofs.Ytnajmemcdipknaa.PK
open Go.RowKit Go.Proofs.YtnajmemcdipknaaW.PrintWords Go.Proofs.YtnajmemcdipknaaW.PrintLast Go.Proofs.YtnajmemcdipknaaW.PrintMore
attribute [local go_sem] max2_int min2_int max_two min_two max_three min_three max_four min_four   -- for this text's walks alone
set_option linter.unusedVariables false
set_option linter.unusedSimpArgs false

/-! ### primerref01_Size: function 103 -/
mutual
def primerref01_Size.j0 : Nat → Int → Int → Bool → ByteArray → Int → Option (Int × ByteArray × Int)
  | 0, _, _, _, _, _ => none
  | k + 1, x1, x5, x16, x1000, x1001 => if x16 = true then (primerref01_Size.j1 k x1 x5 x1000 2) else (primerref01_Size.j1 k x1 x5 x1000 x1001)
def primerref01_Size.j1 : Nat → Int → Int → ByteArray → Int → Option (Int × ByteArray × Int)
  | 0, _, _, _, _ => none
  | k + 1, x1, x5, x1000, x1001 => if x1001 = 0 then (if x5 > x1 then (primerref01_Size.j2 k x5 true x1000 x1001) else (primerref01_Size.j2 k x5 (decide (x5 > 65536)) x1000 x1001)) else (primerref01_Size.j2 k x5 false x1000 x1001)
def primerref01_Size.j2 : Nat → Int → Bool → ByteArray → Int → Option (Int × ByteArray × Int)
  | 0, _, _, _, _ => none
  | k + 1, x5, x33, x1000, x1001 => if x33 = true then (some (0, x1000, 6)) else (if x1001 = 0 then (some (x5, x1000, x1001)) else (some (0, x1000, x1001)))
end
def primerref01_Size.f (k : Nat) (s0_0 : ByteArray) (s0_1 : Int) (a1 : Int) : Option (Int × ByteArray × Int) := (primerref01_Int.f k s0_0 s0_1).bind fun bt165 => (if bt165.2.2 = 0 then (primerref01_Size.j0 k a1 bt165.1 (decide (bt165.1 < 0)) bt165.2.1 bt165.2.2) else (primerref01_Size.j0 k a1 bt165.1 false bt165.2.1 bt165.2.2))
theorem primerref01_Size.mono_l : ∀ k, (∀ y0 y1 y2 y3 y4, LeO (primerref01_Size.j0 k y0 y1 y2 y3 y4) (primerref01_Size.j0 (k + 1) y0 y1 y2 y3 y4)) ∧ (∀ y0 y1 y2 y3, LeO (primerref01_Size.j1 k y0 y1 y2 y3) (primerref01_Size.j1 (k + 1) y0 y1 y2 y3)) ∧ (∀ y0 y1 y2 y3, LeO (primerref01_Size.j2 k y0 y1 y2 y3) (primerref01_Size.j2 (k + 1) y0 y1 y2 y3))
  | 0 => ⟨fun _ _ _ _ _ r h => by simp [primerref01_Size.j0] at h, fun _ _ _ _ r h => by simp [primerref01_Size.j1] at h, fun _ _ _ _ r h => by simp [primerref01_Size.j2] at h⟩
  | k + 1 => by
    obtain ⟨ih0, ih1, ih2⟩ := primerref01_Size.mono_l k
    refine ⟨?_, ?_, ?_⟩
    · intro y0 y1 y2 y3 y4
      unfold primerref01_Size.j0
      repeat' first
      | (with_reducible exact ih0 _ _ _ _ _)
      | (with_reducible exact ih1 _ _ _ _)
      | (with_reducible exact ih2 _ _ _ _)
      | (with_reducible exact primerref01_Int.mono _ _ _)
      | (with_reducible exact LeO.refl _)
      | (with_reducible exact LeO.none _)
      | (with_reducible refine LeO.ite ?_ ?_)
      | (with_reducible refine LeO.bind ?_ (fun _ => ?_))
      | exact ih0 _ _ _ _ _
      | exact ih1 _ _ _ _
      | exact ih2 _ _ _ _
      | exact primerref01_Int.mono _ _ _
      | exact LeO.none _
      | refine LeO.ite ?_ ?_
      | refine LeO.bind ?_ (fun _ => ?_)
    · intro y0 y1 y2 y3
      unfold primerref01_Size.j1
      repeat' first
      | (with_reducible exact ih0 _ _ _ _ _)
      | (with_reducible exact ih1 _ _ _ _)
      | (with_reducible exact ih2 _ _ _ _)
      | (with_reducible exact primerref01_Int.mono _ _ _)
      | (with_reducible exact LeO.refl _)
      | (with_reducible exact LeO.none _)
      | (with_reducible refine LeO.ite ?_ ?_)
      | (with_reducible refine LeO.bind ?_ (fun _ => ?_))
      | exact ih0 _ _ _ _ _
      | exact ih1 _ _ _ _
      | exact ih2 _ _ _ _
      | exact primerref01_Int.mono _ _ _
      | exact LeO.none _
      | refine LeO.ite ?_ ?_
      | refine LeO.bind ?_ (fun _ => ?_)
    · intro y0 y1 y2 y3
      unfold primerref01_Size.j2
      repeat' first
      | (with_reducible exact ih0 _ _ _ _ _)
      | (with_reducible exact ih1 _ _ _ _)
      | (with_reducible exact ih2 _ _ _ _)
      | (with_reducible exact primerref01_Int.mono _ _ _)
      | (with_reducible exact LeO.refl _)
      | (with_reducible exact LeO.none _)
      | (with_reducible refine LeO.ite ?_ ?_)
      | (with_reducible refine LeO.bind ?_ (fun _ => ?_))
      | exact ih0 _ _ _ _ _
      | exact ih1 _ _ _ _
      | exact ih2 _ _ _ _
      | exact primerref01_Int.mono _ _ _
      | exact LeO.none _
      | refine LeO.ite ?_ ?_
      | refine LeO.bind ?_ (fun _ => ?_)
theorem primerref01_Size.mono : ∀ a0 a1 a2 k, LeO (primerref01_Size.f k a0 a1 a2) (primerref01_Size.f (k + 1) a0 a1 a2) := by
  intro a0 a1 a2 k
  obtain ⟨ih0, ih1, ih2⟩ := primerref01_Size.mono_l k
  unfold primerref01_Size.f
  repeat' first
      | (with_reducible exact ih0 _ _ _ _ _)
      | (with_reducible exact ih1 _ _ _ _)
      | (with_reducible exact ih2 _ _ _ _)
      | (with_reducible exact primerref01_Int.mono _ _ _)
      | (with_reducible exact LeO.refl _)
      | (with_reducible exact LeO.none _)
      | (with_reducible refine LeO.ite ?_ ?_)
      | (with_reducible refine LeO.bind ?_ (fun _ => ?_))
      | exact ih0 _ _ _ _ _
      | exact ih1 _ _ _ _
      | exact ih2 _ _ _ _
      | exact primerref01_Int.mono _ _ _
      | exact LeO.none _
      | refine LeO.ite ?_ ?_
      | refine LeO.bind ?_ (fun _ => ?_)
set_option maxHeartbeats 8000000 in
set_option maxRecDepth 100000 in
theorem primerref01_Size.calls (k : Nat) (g : Nat) (s0_0 : ByteArray) (s0_1 : Int) (a1 : Int) (r1 : Int) (r2 : ByteArray) (r3 : Int) (w0 w : World) (hI : IsS116 w0 w g s0_0 s0_1) (hB : Below w0.heap.size w0 w) (h : primerref01_Size.f k s0_0 s0_1 a1 = some (r1, r2, r3)) :
    Calls Try.prog 103 #[.pointer (some ⟨g, 0, none⟩), .int .i64 a1] w fun e w' => e = .returned (.int .i64 r1) ∧ IsS116 w0 w' g r2 r3 ∧ Below w0.heap.size w0 w' ∧ KeepBut w w' g none := by
  have HI0 := Aside0.mk hI
  have HK := Aside0.mk (KeepBut.refl w g none)
  have HL := Aside0.mk hB.size
  clear hI
  have HW0 := Aside0.mk hB.size
  have HB := Aside0.mk hB
  clear hB
  have H : ((primerref01_Int.f k s0_0 s0_1).bind fun bt165 => (if bt165.2.2 = 0 then (primerref01_Size.j0 k a1 bt165.1 (decide (bt165.1 < 0)) bt165.2.1 bt165.2.2) else (primerref01_Size.j0 k a1 bt165.1 false bt165.2.1 bt165.2.2))) = some (r1, r2, r3) := h
  clear h
  replace H := Option.bind_eq_some_iff.mp H
  obtain ⟨⟨t165, t166, t167⟩, A30, H⟩ := H
  replace H : (if t167 = 0 then (primerref01_Size.j0 k a1 t165 (decide (t165 < 0)) t166 t167) else (primerref01_Size.j0 k a1 t165 false t166 t167)) = some (r1, r2, r3) := H
  have A3 := Aside0.mk A30
  clear A30
  have HC4 := Aside0.mk H
  clear H
  go_enter Try.func103, Try.ntmps103
  go_upto_region 2 with (first | ((with_reducible refine gate_callee (f := 59) rfl ?_); refine goesL_ (some 7) rfl rfl Try.func59 (by kernel_rfl) rfl #[.pointer (some ⟨g, 0, none⟩)] rfl (by (try simp only [List.map_toArray, List.map_cons, List.map_nil]); first | done | rfl | (simp only [List.length_drop, List.length_take]; rfl)) ?_; (with_reducible refine (primerref01_Int.calls k g s0_0 s0_1 t165 t166 t167 w0 _ ?side1 ?side2 A3.out).mono ?_); (case side1 => repeat (first | (with_reducible first | exact HI0.out | apply IsS116.alloc | apply IsS116.drewN | apply IsS116.drew | apply IsS116.set_0 | apply IsS116.set_1) | exact HI0.out)); (case side2 => repeat (first | (with_reducible first | exact HB.out | apply below_alloc | apply pw_below_drewN | apply below_drew1 | refine below_set ?_ (IsS116.ge HI0.out)) | exact HB.out)); rintro e w5 ⟨rfl, hi, hb, hk⟩; refine ⟨_, rfl, ?_⟩; have n0_ := Aside0.mk (KeepBut.trans (by repeat (first | (with_reducible first | exact HK.out | apply KeepBut.set_ | apply keep_drewN | apply keep_drew | apply keep_alloc) | exact HK.out)) hk (.inl rfl)); have n1_ := Aside0.mk (hb); have n2_ := Aside0.mk (hi); clear HK; clear HB; clear HI0; have HK := n0_; have HB := n1_; have HI0 := n2_; clear n0_ n1_ n2_; (try clear hb); (try clear hb2); (try clear hk); (try clear hi)))
  (try simp only [Act.put, List.setIfInBounds_toArray, List.set_cons_zero, List.set_cons_succ])
  go_cut [16] (fun v16 wc => ∃ (kq : Nat) (x16_3 : Bool), v16 = .bool x16_3 ∧ Aside0 (primerref01_Size.j0 kq a1 t165 x16_3 t166 t167 = some (r1, r2, r3)) ∧ Aside0 (kq ≤ k) ∧ Aside0 (IsS116 w0 wc g t166 t167) ∧ Aside0 (KeepBut w wc g none) ∧ Aside0 (Below w0.heap.size w0 wc))
  case first =>
    have H := HC4.out
    clear HC4
    by_cases c6 : t167 = 0
    · rw [if_pos c6] at H
      have c6b0 : (t167 == 0) = true := beq_iff_eq.mpr c6
      have c6b1 : (t167 != 0) = false := bne_eq_false_iff_eq.mpr c6
      clear c6
      (first | rw [c6b0] | (simp only [i64_w, i32_w]; rw [c6b0]) | skip)
      have H' := Aside0.mk H
      clear H
      obtain ⟨HGz7, hgz7⟩ := HI0.out
      have hcz7_0 := cellS116_0 HGz7
      have hcz7_1 := cellS116_1 HGz7
      have hfz7_0 := blk_frozen HGz7 0
      have hfz7_1 := blk_frozen HGz7 1
      clear HGz7 hgz7
      go_wp2
      go_meet
      case rel => exact ⟨_, (decide (t165 < 0)), (by first | rfl | (simp; done) | (simp [*]; done)), H', ⟨by first | omega | exact Nat.le_refl _⟩, ⟨by repeat (first | (with_reducible first | exact HI0.out | apply IsS116.alloc | apply IsS116.drewN | apply IsS116.drew | apply IsS116.set_0 | apply IsS116.set_1) | exact HI0.out)⟩, ⟨by repeat (first | (with_reducible first | exact HK.out | apply KeepBut.set_ | apply keep_drewN | apply keep_drew | apply keep_alloc) | exact HK.out)⟩, ⟨by repeat (first | (with_reducible first | exact HB.out | apply below_alloc | apply pw_below_drewN | apply below_drew1 | refine below_set ?_ (IsS116.ge HI0.out)) | exact HB.out)⟩⟩
    · rw [if_neg c6] at H
      have c6b0 : (t167 == 0) = false := beq_eq_false_iff_ne.mpr c6
      have c6b1 : (t167 != 0) = true := bne_iff_ne.mpr c6
      (first | rw [c6b0] | (simp only [i64_w, i32_w]; rw [c6b0]) | skip)
      have H' := Aside0.mk H
      clear H
      obtain ⟨HGz8, hgz8⟩ := HI0.out
      have hcz8_0 := cellS116_0 HGz8
      have hcz8_1 := cellS116_1 HGz8
      have hfz8_0 := blk_frozen HGz8 0
      have hfz8_1 := blk_frozen HGz8 1
      clear HGz8 hgz8
      go_wp2
      go_meet
      case rel => exact ⟨_, (false), (by first | rfl | (simp; done) | (simp [*]; done)), H', ⟨by first | omega | exact Nat.le_refl _⟩, ⟨by repeat (first | (with_reducible first | exact HI0.out | apply IsS116.alloc | apply IsS116.drewN | apply IsS116.drew | apply IsS116.set_0 | apply IsS116.set_1) | exact HI0.out)⟩, ⟨by repeat (first | (with_reducible first | exact HK.out | apply KeepBut.set_ | apply keep_drewN | apply keep_drew | apply keep_alloc) | exact HK.out)⟩, ⟨by repeat (first | (with_reducible first | exact HB.out | apply below_alloc | apply pw_below_drewN | apply below_drew1 | refine below_set ?_ (IsS116.ge HI0.out)) | exact HB.out)⟩⟩
  case rest =>
    clear HC4
    try clear c1
    try clear p2
    try clear c5
    try clear c6
    try clear c6b0
    try clear c6b1
    try clear hcz7_0
    try clear hcz7_1
    try clear hcz8_0
    try clear hcz8_1
    try clear hfz7_0
    try clear hfz7_1
    try clear hfz8_0
    try clear hfz8_1
    obtain ⟨kq, x16_3, rfl, HA, HJ3, HI0, HK, HB⟩ := hcut
    cases kq with
    | zero => exact absurd HA.out (by simp [primerref01_Size.j0])
    | succ kj3 =>
      have H := HA.out
      clear HA
      simp only [primerref01_Size.j0] at H
      have HC9 := Aside0.mk H
      clear H
      go_upto_if 16 with (fail)
      go_cut [] (fun wc => ∃ (kq : Nat) (x1001_8 : Int), Aside0 (primerref01_Size.j1 kq a1 t165 t166 x1001_8 = some (r1, r2, r3)) ∧ Aside0 (kq ≤ kj3) ∧ Aside0 (IsS116 w0 wc g t166 x1001_8) ∧ Aside0 (KeepBut w wc g none) ∧ Aside0 (Below w0.heap.size w0 wc))
      case first =>
        have H := HC9.out
        clear HC9
        by_cases c10 : x16_3 = true
        · subst c10
          have H1 : (primerref01_Size.j1 kj3 a1 t165 t166 2) = some (r1, r2, r3) := by rw [if_pos rfl] at H; exact H
          clear H
          have H := H1
          clear H1
          have H' := Aside0.mk H
          clear H
          obtain ⟨HGz11, hgz11⟩ := HI0.out
          have hcz11_0 := cellS116_0 HGz11
          have hcz11_1 := cellS116_1 HGz11
          have hfz11_0 := blk_frozen HGz11 0
          have hfz11_1 := blk_frozen HGz11 1
          clear HGz11 hgz11
          go_wp2
          go_meet
          case rel => exact ⟨_, (2), H', ⟨by have := HJ3.out; first | omega | exact Nat.le_refl _⟩, ⟨by repeat (first | (with_reducible first | exact HI0.out | apply IsS116.alloc | apply IsS116.drewN | apply IsS116.drew | apply IsS116.set_0 | apply IsS116.set_1) | exact HI0.out)⟩, ⟨by repeat (first | (with_reducible first | exact HK.out | apply KeepBut.set_ | apply keep_drewN | apply keep_drew | apply keep_alloc) | exact HK.out)⟩, ⟨by repeat (first | (with_reducible first | exact HB.out | apply below_alloc | apply pw_below_drewN | apply below_drew1 | refine below_set ?_ (IsS116.ge HI0.out)) | exact HB.out)⟩⟩
        · replace c10 := Bool.eq_false_iff.mpr c10
          subst c10
          have H1 : (primerref01_Size.j1 kj3 a1 t165 t166 t167) = some (r1, r2, r3) := by rw [if_neg (show ¬ (false = true) by decide)] at H; exact H
          clear H
          have H := H1
          clear H1
          have H' := Aside0.mk H
          clear H
          go_wp2
          go_meet
          case rel => exact ⟨_, (t167), H', ⟨by have := HJ3.out; first | omega | exact Nat.le_refl _⟩, ⟨by repeat (first | (with_reducible first | exact HI0.out | apply IsS116.alloc | apply IsS116.drewN | apply IsS116.drew | apply IsS116.set_0 | apply IsS116.set_1) | exact HI0.out)⟩, ⟨by repeat (first | (with_reducible first | exact HK.out | apply KeepBut.set_ | apply keep_drewN | apply keep_drew | apply keep_alloc) | exact HK.out)⟩, ⟨by repeat (first | (with_reducible first | exact HB.out | apply below_alloc | apply pw_below_drewN | apply below_drew1 | refine below_set ?_ (IsS116.ge HI0.out)) | exact HB.out)⟩⟩
      case rest =>
        clear HC9
        try clear c1
        try clear p2
        try clear c5
        try clear c6
        try clear c6b0
        try clear c6b1
        try clear c10
        try clear hcz11_0
        try clear hcz11_1
        try clear hcz7_0
        try clear hcz7_1
        try clear hcz8_0
        try clear hcz8_1
        try clear hfz11_0
        try clear hfz11_1
        try clear hfz7_0
        try clear hfz7_1
        try clear hfz8_0
        try clear hfz8_1
        try clear p2
        obtain ⟨kq, x1001_8, HA, HJ8, HI0, HK, HB⟩ := hcut
        cases kq with
        | zero => exact absurd HA.out (by simp [primerref01_Size.j1])
        | succ kj8 =>
          have H := HA.out
          clear HA
          simp only [primerref01_Size.j1] at H
          have HC12 := Aside0.mk H
          clear H
          go_upto_region 4 with (fail)
          go_cut [33] (fun v33 wc => ∃ (kq : Nat) (x33_11 : Bool), v33 = .bool x33_11 ∧ Aside0 (primerref01_Size.j2 kq t165 x33_11 t166 x1001_8 = some (r1, r2, r3)) ∧ Aside0 (kq ≤ kj8) ∧ Aside0 (IsS116 w0 wc g t166 x1001_8) ∧ Aside0 (KeepBut w wc g none) ∧ Aside0 (Below w0.heap.size w0 wc))
          case first =>
            have H := HC12.out
            clear HC12
            by_cases c13 : x1001_8 = 0
            · rw [if_pos c13] at H
              have c13b0 : (x1001_8 == 0) = true := beq_iff_eq.mpr c13
              have c13b1 : (x1001_8 != 0) = false := bne_eq_false_iff_eq.mpr c13
              clear c13
              (first | rw [c13b0] | (simp only [i64_w, i32_w]; rw [c13b0]) | skip)
              by_cases c14 : t165 > a1
              · rw [if_pos c14] at H
                have c14b0 : decide (a1 < t165) = true := decide_eq_true c14
                clear c14
                have H' := Aside0.mk H
                clear H
                obtain ⟨HGz15, hgz15⟩ := HI0.out
                have hcz15_0 := cellS116_0 HGz15
                have hcz15_1 := cellS116_1 HGz15
                have hfz15_0 := blk_frozen HGz15 0
                have hfz15_1 := blk_frozen HGz15 1
                clear HGz15 hgz15
                go_wp2
                go_meet
                case rel => exact ⟨_, (true), (by first | rfl | (simp; done) | (simp [*]; done)), H', ⟨by have := HJ3.out; have := HJ8.out; first | omega | exact Nat.le_refl _⟩, ⟨by repeat (first | (with_reducible first | exact HI0.out | apply IsS116.alloc | apply IsS116.drewN | apply IsS116.drew | apply IsS116.set_0 | apply IsS116.set_1) | exact HI0.out)⟩, ⟨by repeat (first | (with_reducible first | exact HK.out | apply KeepBut.set_ | apply keep_drewN | apply keep_drew | apply keep_alloc) | exact HK.out)⟩, ⟨by repeat (first | (with_reducible first | exact HB.out | apply below_alloc | apply pw_below_drewN | apply below_drew1 | refine below_set ?_ (IsS116.ge HI0.out)) | exact HB.out)⟩⟩
              · rw [if_neg c14] at H
                have c14b0 : decide (a1 < t165) = false := decide_eq_false c14
                clear c14
                have H' := Aside0.mk H
                clear H
                obtain ⟨HGz16, hgz16⟩ := HI0.out
                have hcz16_0 := cellS116_0 HGz16
                have hcz16_1 := cellS116_1 HGz16
                have hfz16_0 := blk_frozen HGz16 0
                have hfz16_1 := blk_frozen HGz16 1
                clear HGz16 hgz16
                go_wp2
                go_meet
                case rel => exact ⟨_, (decide (t165 > 65536)), (by first | rfl | (simp; done) | (simp [*]; done)), H', ⟨by have := HJ3.out; have := HJ8.out; first | omega | exact Nat.le_refl _⟩, ⟨by repeat (first | (with_reducible first | exact HI0.out | apply IsS116.alloc | apply IsS116.drewN | apply IsS116.drew | apply IsS116.set_0 | apply IsS116.set_1) | exact HI0.out)⟩, ⟨by repeat (first | (with_reducible first | exact HK.out | apply KeepBut.set_ | apply keep_drewN | apply keep_drew | apply keep_alloc) | exact HK.out)⟩, ⟨by repeat (first | (with_reducible first | exact HB.out | apply below_alloc | apply pw_below_drewN | apply below_drew1 | refine below_set ?_ (IsS116.ge HI0.out)) | exact HB.out)⟩⟩
            · rw [if_neg c13] at H
              have c13b0 : (x1001_8 == 0) = false := beq_eq_false_iff_ne.mpr c13
              have c13b1 : (x1001_8 != 0) = true := bne_iff_ne.mpr c13
              (first | rw [c13b0] | (simp only [i64_w, i32_w]; rw [c13b0]) | skip)
              have H' := Aside0.mk H
              clear H
              obtain ⟨HGz17, hgz17⟩ := HI0.out
              have hcz17_0 := cellS116_0 HGz17
              have hcz17_1 := cellS116_1 HGz17
              have hfz17_0 := blk_frozen HGz17 0
              have hfz17_1 := blk_frozen HGz17 1
              clear HGz17 hgz17
              go_wp2
              go_meet
              case rel => exact ⟨_, (false), (by first | rfl | (simp; done) | (simp [*]; done)), H', ⟨by have := HJ3.out; have := HJ8.out; first | omega | exact Nat.le_refl _⟩, ⟨by repeat (first | (with_reducible first | exact HI0.out | apply IsS116.alloc | apply IsS116.drewN | apply IsS116.drew | apply IsS116.set_0 | apply IsS116.set_1) | exact HI0.out)⟩, ⟨by repeat (first | (with_reducible first | exact HK.out | apply KeepBut.set_ | apply keep_drewN | apply keep_drew | apply keep_alloc) | exact HK.out)⟩, ⟨by repeat (first | (with_reducible first | exact HB.out | apply below_alloc | apply pw_below_drewN | apply below_drew1 | refine below_set ?_ (IsS116.ge HI0.out)) | exact HB.out)⟩⟩
          case rest =>
            clear HC12
            try clear c1
            try clear p2
            try clear c5
            try clear c6
            try clear c6b0
            try clear c6b1
            try clear c10
            try clear c13
            try clear c13b0
            try clear c13b1
            try clear c14
            try clear c14b0
            try clear hcz11_0
            try clear hcz11_1
            try clear hcz15_0
            try clear hcz15_1
            try clear hcz16_0
            try clear hcz16_1
            try clear hcz17_0
            try clear hcz17_1
            try clear hcz7_0
            try clear hcz7_1
            try clear hcz8_0
            try clear hcz8_1
            try clear hfz11_0
            try clear hfz11_1
            try clear hfz15_0
            try clear hfz15_1
            try clear hfz16_0
            try clear hfz16_1
            try clear hfz17_0
            try clear hfz17_1
            try clear hfz7_0
            try clear hfz7_1
            try clear hfz8_0
            try clear hfz8_1
            try clear p2
            obtain ⟨kq, x33_11, rfl, HA, HJ11, HI0, HK, HB⟩ := hcut
            cases kq with
            | zero => exact absurd HA.out (by simp [primerref01_Size.j2])
            | succ kj11 =>
              have H := HA.out
              clear HA
              simp only [primerref01_Size.j2] at H
              by_cases c18 : x33_11 = true
              · subst c18
                have H1 : (some (0, t166, 6)) = some (r1, r2, r3) := by rw [if_pos rfl] at H; exact H
                clear H
                have H := H1
                clear H1
                simp only [Option.some.injEq, Prod.mk.injEq] at H
                obtain ⟨rfl, rfl, rfl⟩ := H
                obtain ⟨HGz19, hgz19⟩ := HI0.out
                have hcz19_0 := cellS116_0 HGz19
                have hcz19_1 := cellS116_1 HGz19
                have hfz19_0 := blk_frozen HGz19 0
                have hfz19_1 := blk_frozen HGz19 1
                clear HGz19 hgz19
                go_wp2
                go_ret
                exact ⟨by first | rfl | (simp [errW_none, errW_some] <;> rfl) | (simp [*, errW_none, errW_some] <;> rfl), by repeat (first | (with_reducible first | exact HI0.out | apply IsS116.alloc | apply IsS116.drewN | apply IsS116.drew | apply IsS116.set_0 | apply IsS116.set_1) | exact HI0.out), by repeat (first | (with_reducible first | exact HB.out | apply below_alloc | apply pw_below_drewN | apply below_drew1 | refine below_set ?_ (IsS116.ge HI0.out)) | exact HB.out), by repeat (first | (with_reducible first | exact HK.out | apply KeepBut.set_ | apply keep_drewN | apply keep_drew | apply keep_alloc) | exact HK.out)⟩
              · replace c18 := Bool.eq_false_iff.mpr c18
                subst c18
                have H1 : (if x1001_8 = 0 then (some (t165, t166, x1001_8)) else (some (0, t166, x1001_8))) = some (r1, r2, r3) := by rw [if_neg (show ¬ (false = true) by decide)] at H; exact H
                clear H
                have H := H1
                clear H1
                by_cases c20 : x1001_8 = 0
                · rw [if_pos c20] at H
                  have c20b0 : (x1001_8 == 0) = true := beq_iff_eq.mpr c20
                  have c20b1 : (x1001_8 != 0) = false := bne_eq_false_iff_eq.mpr c20
                  clear c20
                  simp only [Option.some.injEq, Prod.mk.injEq] at H
                  obtain ⟨rfl, rfl, rfl⟩ := H
                  obtain ⟨HGz21, hgz21⟩ := HI0.out
                  have hcz21_0 := cellS116_0 HGz21
                  have hcz21_1 := cellS116_1 HGz21
                  have hfz21_0 := blk_frozen HGz21 0
                  have hfz21_1 := blk_frozen HGz21 1
                  clear HGz21 hgz21
                  go_wp2
                  go_ret
                  exact ⟨by first | rfl | (simp [errW_none, errW_some] <;> rfl) | (simp [*, errW_none, errW_some] <;> rfl), by repeat (first | (with_reducible first | exact HI0.out | apply IsS116.alloc | apply IsS116.drewN | apply IsS116.drew | apply IsS116.set_0 | apply IsS116.set_1) | exact HI0.out), by repeat (first | (with_reducible first | exact HB.out | apply below_alloc | apply pw_below_drewN | apply below_drew1 | refine below_set ?_ (IsS116.ge HI0.out)) | exact HB.out), by repeat (first | (with_reducible first | exact HK.out | apply KeepBut.set_ | apply keep_drewN | apply keep_drew | apply keep_alloc) | exact HK.out)⟩
                · rw [if_neg c20] at H
                  have c20b0 : (x1001_8 == 0) = false := beq_eq_false_iff_ne.mpr c20
                  have c20b1 : (x1001_8 != 0) = true := bne_iff_ne.mpr c20
                  simp only [Option.some.injEq, Prod.mk.injEq] at H
                  obtain ⟨rfl, rfl, rfl⟩ := H
                  obtain ⟨HGz22, hgz22⟩ := HI0.out
                  have hcz22_0 := cellS116_0 HGz22
                  have hcz22_1 := cellS116_1 HGz22
                  have hfz22_0 := blk_frozen HGz22 0
                  have hfz22_1 := blk_frozen HGz22 1
                  clear HGz22 hgz22
                  go_wp2
                  go_ret
                  exact ⟨by first | rfl | (simp [errW_none, errW_some] <;> rfl) | (simp [*, errW_none, errW_some] <;> rfl), by repeat (first | (with_reducible first | exact HI0.out | apply IsS116.alloc | apply IsS116.drewN | apply IsS116.drew | apply IsS116.set_0 | apply IsS116.set_1) | exact HI0.out), by repeat (first | (with_reducible first | exact HB.out | apply below_alloc | apply pw_below_drewN | apply below_drew1 | refine below_set ?_ (IsS116.ge HI0.out)) | exact HB.out), by repeat (first | (with_reducible first | exact HK.out | apply KeepBut.set_ | apply keep_drewN | apply keep_drew | apply keep_alloc) | exact HK.out)⟩

/-! ### primerref01_Text: function 60 -/
def primerref01_Text.j0 : Nat → Int → Bool → ByteArray → Int → Option (ByteArray × ByteArray × Int)
  | 0, _, _, _, _ => none
  | k + 1, x3, x20, x1000, x1001 => if x20 = true then (some ((⟨#[]⟩ : ByteArray), x1000, 3)) else (if x1001 = 0 then (if 0 ≤ x3 then (if x3 ≤ (x1000.size : Int) then (some (x1000.extract 0 (x3 : Int).toNat, x1000.extract (x3 : Int).toNat x1000.size, x1001)) else (none)) else (none)) else (some ((⟨#[]⟩ : ByteArray), x1000, x1001)))
def primerref01_Text.f (k : Nat) (s0_0 : ByteArray) (s0_1 : Int) : Option (ByteArray × ByteArray × Int) := (primerref01_Size.f k s0_0 s0_1 65536).bind fun bt168 => (if bt168.2.2 = 0 then (primerref01_Text.j0 k bt168.1 (decide (bt168.1 > (bt168.2.1.size : Int))) bt168.2.1 bt168.2.2) else (primerref01_Text.j0 k bt168.1 false bt168.2.1 bt168.2.2))
theorem primerref01_Text.mono_l : ∀ k, (∀ y0 y1 y2 y3, LeO (primerref01_Text.j0 k y0 y1 y2 y3) (primerref01_Text.j0 (k + 1) y0 y1 y2 y3))
  | 0 => fun _ _ _ _ r h => by simp [primerref01_Text.j0] at h
  | k + 1 => by
    have ih0 := primerref01_Text.mono_l k
    · intro y0 y1 y2 y3
      unfold primerref01_Text.j0
      repeat' first
      | (with_reducible exact ih0 _ _ _ _)
      | (with_reducible exact primerref01_Size.mono _ _ _ _)
      | (with_reducible exact LeO.refl _)
      | (with_reducible exact LeO.none _)
      | (with_reducible refine LeO.ite ?_ ?_)
      | (with_reducible refine LeO.bind ?_ (fun _ => ?_))
      | exact ih0 _ _ _ _
      | exact primerref01_Size.mono _ _ _ _
      | exact LeO.none _
      | refine LeO.ite ?_ ?_
      | refine LeO.bind ?_ (fun _ => ?_)
theorem primerref01_Text.mono : ∀ a0 a1 k, LeO (primerref01_Text.f k a0 a1) (primerref01_Text.f (k + 1) a0 a1) := by
  intro a0 a1 k
  have ih0 := primerref01_Text.mono_l k
  unfold primerref01_Text.f
  repeat' first
      | (with_reducible exact ih0 _ _ _ _)
      | (with_reducible exact primerref01_Size.mono _ _ _ _)
      | (with_reducible exact LeO.refl _)
      | (with_reducible exact LeO.none _)
      | (with_reducible refine LeO.ite ?_ ?_)
      | (with_reducible refine LeO.bind ?_ (fun _ => ?_))
      | exact ih0 _ _ _ _
      | exact primerref01_Size.mono _ _ _ _
      | exact LeO.none _
      | refine LeO.ite ?_ ?_
      | refine LeO.bind ?_ (fun _ => ?_)
set_option maxHeartbeats 8000000 in
set_option maxRecDepth 100000 in
theorem primerref01_Text.calls (k : Nat) (g : Nat) (s0_0 : ByteArray) (s0_1 : Int) (r1 : ByteArray) (r2 : ByteArray) (r3 : Int) (w0 w : World) (hI : IsS116 w0 w g s0_0 s0_1) (hB : Below w0.heap.size w0 w) (h : primerref01_Text.f k s0_0 s0_1 = some (r1, r2, r3)) :
    Calls Try.prog 60 #[.pointer (some ⟨g, 0, none⟩)] w fun e w' => e = .returned (.string r1) ∧ IsS116 w0 w' g r2 r3 ∧ Below w0.heap.size w0 w' ∧ KeepBut w w' g none := by
  have HI0 := Aside0.mk hI
  have HK := Aside0.mk (KeepBut.refl w g none)
  have HL := Aside0.mk hB.size
  clear hI
  have HW0 := Aside0.mk hB.size
  have HB := Aside0.mk hB
  clear hB
  have H : ((primerref01_Size.f k s0_0 s0_1 65536).bind fun bt168 => (if bt168.2.2 = 0 then (primerref01_Text.j0 k bt168.1 (decide (bt168.1 > (bt168.2.1.size : Int))) bt168.2.1 bt168.2.2) else (primerref01_Text.j0 k bt168.1 false bt168.2.1 bt168.2.2))) = some (r1, r2, r3) := h
  clear h
  replace H := Option.bind_eq_some_iff.mp H
  obtain ⟨⟨t168, t169, t170⟩, A20, H⟩ := H
  replace H : (if t170 = 0 then (primerref01_Text.j0 k t168 (decide (t168 > (t169.size : Int))) t169 t170) else (primerref01_Text.j0 k t168 false t169 t170)) = some (r1, r2, r3) := H
  have A2 := Aside0.mk A20
  clear A20
  have HC3 := Aside0.mk H
  clear H
  go_enter Try.func60, Try.ntmps60
  go_upto_region 2 with (first | ((with_reducible refine gate_callee (f := 103) rfl ?_); refine goesL_ (some 6) rfl rfl Try.func103 (by kernel_rfl) rfl #[.pointer (some ⟨g, 0, none⟩), .int .i64 65536] rfl (by (try simp only [List.map_toArray, List.map_cons, List.map_nil]); first | done | rfl | (simp only [List.length_drop, List.length_take]; rfl)) ?_; (with_reducible refine (primerref01_Size.calls k g s0_0 s0_1 65536 t168 t169 t170 w0 _ ?side1 ?side2 A2.out).mono ?_); (case side1 => repeat (first | (with_reducible first | exact HI0.out | apply IsS116.alloc | apply IsS116.drewN | apply IsS116.drew | apply IsS116.set_0 | apply IsS116.set_1) | exact HI0.out)); (case side2 => repeat (first | (with_reducible first | exact HB.out | apply below_alloc | apply pw_below_drewN | apply below_drew1 | refine below_set ?_ (IsS116.ge HI0.out)) | exact HB.out)); rintro e w4 ⟨rfl, hi, hb, hk⟩; refine ⟨_, rfl, ?_⟩; have n0_ := Aside0.mk (KeepBut.trans (by repeat (first | (with_reducible first | exact HK.out | apply KeepBut.set_ | apply keep_drewN | apply keep_drew | apply keep_alloc) | exact HK.out)) hk (.inl rfl)); have n1_ := Aside0.mk (hb); have n2_ := Aside0.mk (hi); clear HK; clear HB; clear HI0; have HK := n0_; have HB := n1_; have HI0 := n2_; clear n0_ n1_ n2_; (try clear hb); (try clear hb2); (try clear hk); (try clear hi)))
  (try simp only [Act.put, List.setIfInBounds_toArray, List.set_cons_zero, List.set_cons_succ])
  go_cut [20] (fun v20 wc => ∃ (kq : Nat) (x20_2 : Bool), v20 = .bool x20_2 ∧ Aside0 (primerref01_Text.j0 kq t168 x20_2 t169 t170 = some (r1, r2, r3)) ∧ Aside0 (kq ≤ k) ∧ Aside0 (IsS116 w0 wc g t169 t170) ∧ Aside0 (KeepBut w wc g none) ∧ Aside0 (Below w0.heap.size w0 wc))
  case first =>
    have H := HC3.out
    clear HC3
    by_cases c5 : t170 = 0
    · rw [if_pos c5] at H
      have c5b0 : (t170 == 0) = true := beq_iff_eq.mpr c5
      have c5b1 : (t170 != 0) = false := bne_eq_false_iff_eq.mpr c5
      clear c5
      (first | rw [c5b0] | (simp only [i64_w, i32_w]; rw [c5b0]) | skip)
      have H' := Aside0.mk H
      clear H
      obtain ⟨HGz6, hgz6⟩ := HI0.out
      have hcz6_0 := cellS116_0 HGz6
      have hcz6_1 := cellS116_1 HGz6
      have hfz6_0 := blk_frozen HGz6 0
      have hfz6_1 := blk_frozen HGz6 1
      clear HGz6 hgz6
      go_wp2
      go_meet
      case rel => exact ⟨_, (decide (t168 > (t169.size : Int))), (by first | rfl | (simp; done) | (simp [*]; done)), H', ⟨by first | omega | exact Nat.le_refl _⟩, ⟨by repeat (first | (with_reducible first | exact HI0.out | apply IsS116.alloc | apply IsS116.drewN | apply IsS116.drew | apply IsS116.set_0 | apply IsS116.set_1) | exact HI0.out)⟩, ⟨by repeat (first | (with_reducible first | exact HK.out | apply KeepBut.set_ | apply keep_drewN | apply keep_drew | apply keep_alloc) | exact HK.out)⟩, ⟨by repeat (first | (with_reducible first | exact HB.out | apply below_alloc | apply pw_below_drewN | apply below_drew1 | refine below_set ?_ (IsS116.ge HI0.out)) | exact HB.out)⟩⟩
    · rw [if_neg c5] at H
      have c5b0 : (t170 == 0) = false := beq_eq_false_iff_ne.mpr c5
      have c5b1 : (t170 != 0) = true := bne_iff_ne.mpr c5
      (first | rw [c5b0] | (simp only [i64_w, i32_w]; rw [c5b0]) | skip)
      have H' := Aside0.mk H
      clear H
      obtain ⟨HGz7, hgz7⟩ := HI0.out
      have hcz7_0 := cellS116_0 HGz7
      have hcz7_1 := cellS116_1 HGz7
      have hfz7_0 := blk_frozen HGz7 0
      have hfz7_1 := blk_frozen HGz7 1
      clear HGz7 hgz7
      go_wp2
      go_meet
      case rel => exact ⟨_, (false), (by first | rfl | (simp; done) | (simp [*]; done)), H', ⟨by first | omega | exact Nat.le_refl _⟩, ⟨by repeat (first | (with_reducible first | exact HI0.out | apply IsS116.alloc | apply IsS116.drewN | apply IsS116.drew | apply IsS116.set_0 | apply IsS116.set_1) | exact HI0.out)⟩, ⟨by repeat (first | (with_reducible first | exact HK.out | apply KeepBut.set_ | apply keep_drewN | apply keep_drew | apply keep_alloc) | exact HK.out)⟩, ⟨by repeat (first | (with_reducible first | exact HB.out | apply below_alloc | apply pw_below_drewN | apply below_drew1 | refine below_set ?_ (IsS116.ge HI0.out)) | exact HB.out)⟩⟩
  case rest =>
    clear HC3
    try clear c1
    try clear p2
    try clear c5
    try clear c5b0
    try clear c5b1
    try clear c6
    try clear hcz6_0
    try clear hcz6_1
    try clear hcz7_0
    try clear hcz7_1
    try clear hfz6_0
    try clear hfz6_1
    try clear hfz7_0
    try clear hfz7_1
    obtain ⟨kq, x20_2, rfl, HA, HJ2, HI0, HK, HB⟩ := hcut
    cases kq with
    | zero => exact absurd HA.out (by simp [primerref01_Text.j0])
    | succ kj2 =>
      have H := HA.out
      clear HA
      simp only [primerref01_Text.j0] at H
      by_cases c8 : x20_2 = true
      · subst c8
        have H1 : (some ((⟨#[]⟩ : ByteArray), t169, 3)) = some (r1, r2, r3) := by rw [if_pos rfl] at H; exact H
        clear H
        have H := H1
        clear H1
        simp only [Option.some.injEq, Prod.mk.injEq] at H
        obtain ⟨rfl, rfl, rfl⟩ := H
        obtain ⟨HGz9, hgz9⟩ := HI0.out
        have hcz9_0 := cellS116_0 HGz9
        have hcz9_1 := cellS116_1 HGz9
        have hfz9_0 := blk_frozen HGz9 0
        have hfz9_1 := blk_frozen HGz9 1
        clear HGz9 hgz9
        go_wp2
        go_ret
        exact ⟨by first | rfl | (simp [errW_none, errW_some] <;> rfl) | (simp [*, errW_none, errW_some] <;> rfl), by repeat (first | (with_reducible first | exact HI0.out | apply IsS116.alloc | apply IsS116.drewN | apply IsS116.drew | apply IsS116.set_0 | apply IsS116.set_1) | exact HI0.out), by repeat (first | (with_reducible first | exact HB.out | apply below_alloc | apply pw_below_drewN | apply below_drew1 | refine below_set ?_ (IsS116.ge HI0.out)) | exact HB.out), by repeat (first | (with_reducible first | exact HK.out | apply KeepBut.set_ | apply keep_drewN | apply keep_drew | apply keep_alloc) | exact HK.out)⟩
      · replace c8 := Bool.eq_false_iff.mpr c8
        subst c8
        have H1 : (if t170 = 0 then (if 0 ≤ t168 then (if t168 ≤ (t169.size : Int) then (some (t169.extract 0 (t168 : Int).toNat, t169.extract (t168 : Int).toNat t169.size, t170)) else (none)) else (none)) else (some ((⟨#[]⟩ : ByteArray), t169, t170))) = some (r1, r2, r3) := by rw [if_neg (show ¬ (false = true) by decide)] at H; exact H
        clear H
        have H := H1
        clear H1
        by_cases c10 : t170 = 0
        · rw [if_pos c10] at H
          have c10b0 : (t170 == 0) = true := beq_iff_eq.mpr c10
          have c10b1 : (t170 != 0) = false := bne_eq_false_iff_eq.mpr c10
          clear c10
          by_cases c11 : 0 ≤ t168
          · rw [if_pos c11] at H
            have c11b0 := eq_true c11
            have c11b1 : decide (0 ≤ t168) = true := decide_eq_true c11
            clear c11
            by_cases c12 : t168 ≤ (t169.size : Int)
            · rw [if_pos c12] at H
              have c12b0 := eq_true c12
              have c12b1 : decide (t168 ≤ (t169.size : Int)) = true := decide_eq_true c12
              clear c12
              have c13b0 := eq_true (of_decide_eq_true (by first | (with_reducible assumption) | assumption) : 0 ≤ t168)
              have c14b0 := eq_true (of_decide_eq_true (by first | (with_reducible assumption) | assumption) : t168 ≤ (t169.size : Int))
              simp only [Option.some.injEq, Prod.mk.injEq] at H
              obtain ⟨rfl, rfl, rfl⟩ := H
              obtain ⟨HGz15, hgz15⟩ := HI0.out
              have hcz15_0 := cellS116_0 HGz15
              have hcz15_1 := cellS116_1 HGz15
              have hfz15_0 := blk_frozen HGz15 0
              have hfz15_1 := blk_frozen HGz15 1
              clear HGz15 hgz15
              go_wp2
              go_ret
              exact ⟨by first | rfl | (simp [errW_none, errW_some] <;> rfl) | (simp [*, errW_none, errW_some] <;> rfl), by repeat (first | (with_reducible first | exact HI0.out | apply IsS116.alloc | apply IsS116.drewN | apply IsS116.drew | apply IsS116.set_0 | apply IsS116.set_1) | exact HI0.out), by repeat (first | (with_reducible first | exact HB.out | apply below_alloc | apply pw_below_drewN | apply below_drew1 | refine below_set ?_ (IsS116.ge HI0.out)) | exact HB.out), by repeat (first | (with_reducible first | exact HK.out | apply KeepBut.set_ | apply keep_drewN | apply keep_drew | apply keep_alloc) | exact HK.out)⟩
            · rw [if_neg c12] at H
              exact absurd H (by simp)
          · rw [if_neg c11] at H
            exact absurd H (by simp)
        · rw [if_neg c10] at H
          have c10b0 : (t170 == 0) = false := beq_eq_false_iff_ne.mpr c10
          have c10b1 : (t170 != 0) = true := bne_iff_ne.mpr c10
          simp only [Option.some.injEq, Prod.mk.injEq] at H
          obtain ⟨rfl, rfl, rfl⟩ := H
          obtain ⟨HGz16, hgz16⟩ := HI0.out
          have hcz16_0 := cellS116_0 HGz16
          have hcz16_1 := cellS116_1 HGz16
          have hfz16_0 := blk_frozen HGz16 0
          have hfz16_1 := blk_frozen HGz16 1
          clear HGz16 hgz16
          go_wp2
          go_ret
          exact ⟨by first | rfl | (simp [errW_none, errW_some] <;> rfl) | (simp [*, errW_none, errW_some] <;> rfl), by repeat (first | (with_reducible first | exact HI0.out | apply IsS116.alloc | apply IsS116.drewN | apply IsS116.drew | apply IsS116.set_0 | apply IsS116.set_1) | exact HI0.out), by repeat (first | (with_reducible first | exact HB.out | apply below_alloc | apply pw_below_drewN | apply below_drew1 | refine below_set ?_ (IsS116.ge HI0.out)) | exact HB.out), by repeat (first | (with_reducible first | exact HK.out | apply KeepBut.set_ | apply keep_drewN | apply keep_drew | apply keep_alloc) | exact HK.out)⟩

/-! ### primerref01_Texts: function 61 -/
def primerref01_Texts.l0 : Nat → Int → List ByteArray → Int → ByteArray → Int → Option (List ByteArray × ByteArray × Int)
  | 0, _, _, _, _, _ => none
  | k + 1, x5, x6, x7, x1000, x1001 => if x7 < x5 then (if x1001 = 0 then ((primerref01_Text.f k x1000 x1001).bind fun bt174 => (if x6.length < 8796093022208 then (primerref01_Texts.l0 k x5 (x6 ++ [bt174.1]) (wrap64 (x7 + 1)) bt174.2.1 bt174.2.2) else (none))) else (some (([] : List ByteArray), x1000, x1001))) else (if x1001 = 0 then (some (x6, x1000, x1001)) else (some (([] : List ByteArray), x1000, x1001)))
def primerref01_Texts.f (k : Nat) (s0_0 : ByteArray) (s0_1 : Int) (a1 : Int) : Option (List ByteArray × ByteArray × Int) := (primerref01_Size.f k s0_0 s0_1 a1).bind fun bt171 => (primerref01_Texts.l0 k bt171.1 ([] : List ByteArray) 0 bt171.2.1 bt171.2.2)
theorem primerref01_Texts.mono_l : ∀ k, (∀ y0 y1 y2 y3 y4, LeO (primerref01_Texts.l0 k y0 y1 y2 y3 y4) (primerref01_Texts.l0 (k + 1) y0 y1 y2 y3 y4))
  | 0 => fun _ _ _ _ _ r h => by simp [primerref01_Texts.l0] at h
  | k + 1 => by
    have ih0 := primerref01_Texts.mono_l k
    · intro y0 y1 y2 y3 y4
      unfold primerref01_Texts.l0
      repeat' first
      | (with_reducible exact ih0 _ _ _ _ _)
      | (with_reducible exact primerref01_Size.mono _ _ _ _)
      | (with_reducible exact primerref01_Text.mono _ _ _)
      | (with_reducible exact LeO.refl _)
      | (with_reducible exact LeO.none _)
      | (with_reducible refine LeO.ite ?_ ?_)
      | (with_reducible refine LeO.bind ?_ (fun _ => ?_))
      | exact ih0 _ _ _ _ _
      | exact primerref01_Size.mono _ _ _ _
      | exact primerref01_Text.mono _ _ _
      | exact LeO.none _
      | refine LeO.ite ?_ ?_
      | refine LeO.bind ?_ (fun _ => ?_)
theorem primerref01_Texts.mono : ∀ a0 a1 a2 k, LeO (primerref01_Texts.f k a0 a1 a2) (primerref01_Texts.f (k + 1) a0 a1 a2) := by
  intro a0 a1 a2 k
  have ih0 := primerref01_Texts.mono_l k
  unfold primerref01_Texts.f
  repeat' first
      | (with_reducible exact ih0 _ _ _ _ _)
      | (with_reducible exact primerref01_Size.mono _ _ _ _)
      | (with_reducible exact primerref01_Text.mono _ _ _)
      | (with_reducible exact LeO.refl _)
      | (with_reducible exact LeO.none _)
      | (with_reducible refine LeO.ite ?_ ?_)
      | (with_reducible refine LeO.bind ?_ (fun _ => ?_))
      | exact ih0 _ _ _ _ _
      | exact primerref01_Size.mono _ _ _ _
      | exact primerref01_Text.mono _ _ _
      | exact LeO.none _
      | refine LeO.ite ?_ ?_
      | refine LeO.bind ?_ (fun _ => ?_)
set_option maxHeartbeats 8000000 in
set_option maxRecDepth 100000 in
theorem primerref01_Texts.calls (k : Nat) (g : Nat) (s0_0 : ByteArray) (s0_1 : Int) (a1 : Int) (r1 : List ByteArray) (r2 : ByteArray) (r3 : Int) (w0 w : World) (hI : IsS116 w0 w g s0_0 s0_1) (hB : Below w0.heap.size w0 w) (h : primerref01_Texts.f k s0_0 s0_1 a1 = some (r1, r2, r3)) :
    Calls Try.prog 61 #[.pointer (some ⟨g, 0, none⟩), .int .i64 a1] w fun e w' => ∃ v0_ : Value, e = .returned (v0_) ∧ Kd.R Kd.string 9 w' w.heap.size (fun _ => True) v0_ r1 ∧ IsS116 w0 w' g r2 r3 ∧ Below w0.heap.size w0 w' ∧ KeepBut w w' g none := by
  have HI0 := Aside0.mk hI
  have HK := Aside0.mk (KeepBut.refl w g none)
  have HL := Aside0.mk hB.size
  clear hI
  have HW0 := Aside0.mk hB.size
  have HB := Aside0.mk hB
  clear hB
  have H : ((primerref01_Size.f k s0_0 s0_1 a1).bind fun bt171 => (primerref01_Texts.l0 k bt171.1 ([] : List ByteArray) 0 bt171.2.1 bt171.2.2)) = some (r1, r2, r3) := h
  clear h
  replace H := Option.bind_eq_some_iff.mp H
  obtain ⟨⟨t171, t172, t173⟩, A30, H⟩ := H
  replace H : (primerref01_Texts.l0 k t171 ([] : List ByteArray) 0 t172 t173) = some (r1, r2, r3) := H
  have A3 := Aside0.mk A30
  clear A30
  have H' := Aside0.mk H
  clear H
  go_enter Try.func61, Try.ntmps61
  go_wp2_with (first | ((with_reducible refine gate_callee (f := 103) rfl ?_); refine goesL_ (some 10) rfl rfl Try.func103 (by kernel_rfl) rfl #[.pointer (some ⟨g, 0, none⟩), .int .i64 a1] rfl (by (try simp only [List.map_toArray, List.map_cons, List.map_nil]); first | done | rfl | (simp only [List.length_drop, List.length_take]; rfl)) ?_; (with_reducible refine (primerref01_Size.calls k g s0_0 s0_1 a1 t171 t172 t173 w0 _ ?side1 ?side2 A3.out).mono ?_); (case side1 => repeat (first | (with_reducible first | exact HI0.out | apply IsS116.alloc | apply IsS116.drewN | apply IsS116.drew | apply IsS116.set_0 | apply IsS116.set_1) | exact HI0.out)); (case side2 => repeat (first | (with_reducible first | exact HB.out | apply below_alloc | apply pw_below_drewN | apply below_drew1 | refine below_set ?_ (IsS116.ge HI0.out)) | exact HB.out)); rintro e w4 ⟨rfl, hi, hb, hk⟩; refine ⟨_, rfl, ?_⟩; have n0_ := Aside0.mk (KeepBut.trans (by repeat (first | (with_reducible first | exact HK.out | apply KeepBut.set_ | apply keep_drewN | apply keep_drew | apply keep_alloc) | exact HK.out)) hk (.inl rfl)); have n1_ := Aside0.mk (hb); have n2_ := Aside0.mk (hi); clear HK; clear HB; clear HI0; have HK := n0_; have HB := n1_; have HI0 := n2_; clear n0_ n1_ n2_; (try clear hb); (try clear hb2); (try clear hk); (try clear hi)))
  go_loopg [6, 7] k (fun kq v6 v7 w' => ∃ (x6_1 : List ByteArray) (x7_1 : Int) (x1000_1 : ByteArray) (x1001_1 : Int), v7 = .int .i64 x7_1 ∧ Aside0 (primerref01_Texts.l0 kq t171 x6_1 x7_1 x1000_1 x1001_1 = some (r1, r2, r3)) ∧ Aside0 (kq ≤ k) ∧ Aside0 (Kd.R Kd.string 9 w' w.heap.size (fun _ => True) v6 x6_1) ∧ Aside0 (IsS116 w0 w' g x1000_1 x1001_1) ∧ Aside0 (KeepBut w w' g none) ∧ Aside0 (Below w0.heap.size w0 w'))
  case atStart => exact ⟨(([] : List ByteArray)), (0), (t172), (t173), (by first | rfl | (simp; done) | (simp [*]; done)), H', ⟨Nat.le_refl _⟩, ⟨by first | exact Kd.R_nil _ _ _ _ _ | exact Kd.N_nil _ _ _ _ _ | exact Kd.V_nil _ _ _ _ _ | exact Kd.Q_nil _ _ _ _ _ | exact Kd.S_nil _ _ _ _ _⟩, ⟨by repeat (first | (with_reducible first | exact HI0.out | apply IsS116.alloc | apply IsS116.drewN | apply IsS116.drew | apply IsS116.set_0 | apply IsS116.set_1) | exact HI0.out)⟩, ⟨by repeat (first | (with_reducible first | exact HK.out | apply KeepBut.set_ | apply keep_drewN | apply keep_drew | apply keep_alloc) | exact HK.out)⟩, ⟨by repeat (first | (with_reducible first | exact HB.out | apply below_alloc | apply pw_below_drewN | apply below_drew1 | refine below_set ?_ (IsS116.ge HI0.out)) | exact HB.out)⟩⟩
  case round =>
    clear H'
    try clear c1
    try clear p2
    obtain ⟨x6_1, x7_1, x1000_1, x1001_1, rfl, HA, HK1, HO_6, HI0, HK, HB⟩ := hrel
    cases gk with
    | zero => exact absurd HA.out (by simp [primerref01_Texts.l0])
    | succ k1 =>
      have H := HA.out
      clear HA
      simp only [primerref01_Texts.l0] at H
      by_cases c5 : x7_1 < t171
      · rw [if_pos c5] at H
        have c5b0 : decide (x7_1 < t171) = true := decide_eq_true c5
        clear c5
        by_cases c6 : x1001_1 = 0
        · rw [if_pos c6] at H
          have c6b0 : (x1001_1 == 0) = true := beq_iff_eq.mpr c6
          have c6b1 : (x1001_1 != 0) = false := bne_eq_false_iff_eq.mpr c6
          clear c6
          replace H := Option.bind_eq_some_iff.mp H
          obtain ⟨⟨t174, t175, t176⟩, A70, H⟩ := H
          replace H : (if x6_1.length < 8796093022208 then (primerref01_Texts.l0 k1 t171 (x6_1 ++ [t174]) (wrap64 (x7_1 + 1)) t175 t176) else (none)) = some (r1, r2, r3) := H
          have A7 := Aside0.mk A70
          clear A70
          by_cases c8 : x6_1.length < 8796093022208
          · rw [if_pos c8] at H
            have LMc8 := Aside0.mk c8
            clear c8
            obtain ⟨y177, hy177⟩ : ∃ y_ : List ByteArray, y_ = (x6_1 ++ [t174]) := ⟨_, rfl⟩
            replace H : (primerref01_Texts.l0 k1 t171 y177 (wrap64 (x7_1 + 1)) t175 t176) = some (r1, r2, r3) := by first | (rw [hy177]; with_reducible exact H) | (have H2_ := (Option.bind_some _ _).symm.trans H; rw [hy177]; with_reducible exact H2_) | (have H2_ := (Option.bind_some _ _).symm.trans H; with_reducible exact H2_) | with_reducible exact H | (rw [hy177]; exact H) | exact H
            have Ny177 := Aside0.mk hy177
            clear hy177
            have H' := Aside0.mk H
            clear H
            obtain ⟨HGz9, hgz9⟩ := HI0.out
            have hcz9_0 := cellS116_0 HGz9
            have hcz9_1 := cellS116_1 HGz9
            have hfz9_0 := blk_frozen HGz9 0
            have hfz9_1 := blk_frozen HGz9 1
            clear HGz9 hgz9
            go_wp2_with (first | ((with_reducible refine gate_callee (f := 60) rfl ?_); refine goesL_ (some 25) rfl rfl Try.func60 (by kernel_rfl) rfl #[.pointer (some ⟨g, 0, none⟩)] rfl (by (try simp only [List.map_toArray, List.map_cons, List.map_nil]); first | done | rfl | (simp only [List.length_drop, List.length_take]; rfl)) ?_; (with_reducible refine (primerref01_Text.calls k1 g x1000_1 x1001_1 t174 t175 t176 w0 _ ?side1 ?side2 A7.out).mono ?_); (case side1 => repeat (first | (with_reducible first | exact HI0.out | apply IsS116.alloc | apply IsS116.drewN | apply IsS116.drew | apply IsS116.set_0 | apply IsS116.set_1) | exact HI0.out)); (case side2 => repeat (first | (with_reducible first | exact HB.out | apply below_alloc | apply pw_below_drewN | apply below_drew1 | refine below_set ?_ (IsS116.ge HI0.out)) | exact HB.out)); rintro e w10 ⟨rfl, hi, hb, hk⟩; refine ⟨_, rfl, ?_⟩; have n0_ := Aside0.mk (Kd.R_mono (Kd.R_keep (IsS116.apart (show IsS116 w0 _ g x1000_1 x1001_1 from by repeat (first | (with_reducible first | exact HI0.out | apply IsS116.alloc | apply IsS116.drewN | apply IsS116.drew | apply IsS116.set_0 | apply IsS116.set_1) | exact HI0.out)) (by (with_reducible repeat (first | apply Kd.R_alloc | apply Kd.R_drewN | apply Kd.R_drew)); exact HO_6.out) (by decide)) hk (fun _ h => h.2)) (fun _ h => h.1)); have n1_ := Aside0.mk (KeepBut.trans (by repeat (first | (with_reducible first | exact HK.out | apply KeepBut.set_ | apply keep_drewN | apply keep_drew | apply keep_alloc) | exact HK.out)) hk (.inl rfl)); have n2_ := Aside0.mk (hb); have n3_ := Aside0.mk (hi); clear HO_6; clear HK; clear HB; clear HI0; have HO_6 := n0_; have HK := n1_; have HB := n2_; have HI0 := n3_; clear n0_ n1_ n2_ n3_; (try clear hb); (try clear hb2); (try clear hk); (try clear hi)) | ((with_reducible refine gate_builtin (b := .append) (xs := #[.tmp 23, .tmp 26]) rfl ?_); at_builtin; refine Kd.R_append Kd.string w.heap.size rfl (.tmp 23) (.tmp 26) 22 9 (.string ⟨#[]⟩) 16 rfl Try.underlying22 info9 rfl (by decide) (by omega) u6 x6_1 t174 [.string t174] (fun _ => True) (fun _ => False) rfl rfl ?aP (fun _ hk => hk.elim) ?aF ?aO (Below.refl _ _) ?aS ?aL ?_; (case aP => exact rfl); (case aF => exact (fun _ _ => trivial)); (case aO => exact (by (with_reducible repeat (first | apply Kd.R_alloc | apply Kd.R_drewN | apply Kd.R_drew)); exact HO_6.out)); (case aS => exact (keep_size (w := w) (g := g) (row := none) (by repeat (first | (with_reducible first | exact HK.out | apply KeepBut.set_ | apply keep_drewN | apply keep_drew | apply keep_alloc) | exact HK.out)))); (case aL => have := LMc8.out; omega); intro v178 w11 ho hb hg hat; rw [← Ny177.out] at ho; have n0_ := Aside0.mk (IsS116.grown (by repeat (first | (with_reducible first | exact HI0.out | apply IsS116.alloc | apply IsS116.drewN | apply IsS116.drew | apply IsS116.set_0 | apply IsS116.set_1) | exact HI0.out)) hg (IsS116.own_ne HI0.out HO_6.out (by decide))); have n1_ := Aside0.mk (below_weaken (by repeat (first | (with_reducible first | exact HB.out | apply below_alloc | apply pw_below_drewN | apply below_drew1 | refine below_set ?_ (IsS116.ge HI0.out)) | exact HB.out)) HL.out hb); have n2_ := Aside0.mk (KeepBut.trans (by repeat (first | (with_reducible first | exact HK.out | apply KeepBut.set_ | apply keep_drewN | apply keep_drew | apply keep_alloc) | exact HK.out)) (KeepBut.of_grown hg g) (Kd.R_base2 HO_6.out)); have n3_ := Aside0.mk (ho); clear HI0; clear HB; clear HK; clear HO_6; have HI0 := n0_; have HB := n1_; have HK := n2_; have HO179 := n3_; clear n0_ n1_ n2_ n3_; clear ho hb hg hat))
            go_roundg k1
            case measure => have := HK1.out; omega
            case rel => exact ⟨(y177), (wrap64 (x7_1 + 1)), (t175), (t176), (by first | rfl | (simp; done) | (simp [*]; done)), H', ⟨by have := HK1.out; omega⟩, ⟨by (with_reducible repeat (first | apply Kd.R_alloc | apply Kd.R_drewN | apply Kd.R_drew)); exact HO179.out⟩, ⟨by repeat (first | (with_reducible first | exact HI0.out | apply IsS116.alloc | apply IsS116.drewN | apply IsS116.drew | apply IsS116.set_0 | apply IsS116.set_1) | exact HI0.out)⟩, ⟨by repeat (first | (with_reducible first | exact HK.out | apply KeepBut.set_ | apply keep_drewN | apply keep_drew | apply keep_alloc) | exact HK.out)⟩, ⟨by repeat (first | (with_reducible first | exact HB.out | apply below_alloc | apply pw_below_drewN | apply below_drew1 | refine below_set ?_ (IsS116.ge HI0.out)) | exact HB.out)⟩⟩
          · rw [if_neg c8] at H
            exact absurd H (by simp)
        · rw [if_neg c6] at H
          have c6b0 : (x1001_1 == 0) = false := beq_eq_false_iff_ne.mpr c6
          have c6b1 : (x1001_1 != 0) = true := bne_iff_ne.mpr c6
          simp only [Option.some.injEq, Prod.mk.injEq] at H
          obtain ⟨rfl, rfl, rfl⟩ := H
          obtain ⟨HGz12, hgz12⟩ := HI0.out
          have hcz12_0 := cellS116_0 HGz12
          have hcz12_1 := cellS116_1 HGz12
          have hfz12_0 := blk_frozen HGz12 0
          have hfz12_1 := blk_frozen HGz12 1
          clear HGz12 hgz12
          go_wp2
          go_ret
          exact ⟨_, by first | rfl | (simp [errW_none, errW_some] <;> rfl) | (simp [*, errW_none, errW_some] <;> rfl), by first | exact Kd.R_nil _ _ _ _ _ | exact Kd.N_nil _ _ _ _ _ | exact Kd.V_nil _ _ _ _ _ | exact Kd.Q_nil _ _ _ _ _ | exact Kd.S_nil _ _ _ _ _, by repeat (first | (with_reducible first | exact HI0.out | apply IsS116.alloc | apply IsS116.drewN | apply IsS116.drew | apply IsS116.set_0 | apply IsS116.set_1) | exact HI0.out), by repeat (first | (with_reducible first | exact HB.out | apply below_alloc | apply pw_below_drewN | apply below_drew1 | refine below_set ?_ (IsS116.ge HI0.out)) | exact HB.out), by repeat (first | (with_reducible first | exact HK.out | apply KeepBut.set_ | apply keep_drewN | apply keep_drew | apply keep_alloc) | exact HK.out)⟩
      · rw [if_neg c5] at H
        have c5b0 : decide (x7_1 < t171) = false := decide_eq_false c5
        clear c5
        by_cases c13 : x1001_1 = 0
        · rw [if_pos c13] at H
          have c13b0 : (x1001_1 == 0) = true := beq_iff_eq.mpr c13
          have c13b1 : (x1001_1 != 0) = false := bne_eq_false_iff_eq.mpr c13
          clear c13
          simp only [Option.some.injEq, Prod.mk.injEq] at H
          obtain ⟨rfl, rfl, rfl⟩ := H
          obtain ⟨HGz14, hgz14⟩ := HI0.out
          have hcz14_0 := cellS116_0 HGz14
          have hcz14_1 := cellS116_1 HGz14
          have hfz14_0 := blk_frozen HGz14 0
          have hfz14_1 := blk_frozen HGz14 1
          clear HGz14 hgz14
          go_wp2
          go_ret
          exact ⟨_, by first | rfl | (simp [errW_none, errW_some] <;> rfl) | (simp [*, errW_none, errW_some] <;> rfl), by (with_reducible repeat (first | apply Kd.R_alloc | apply Kd.R_drewN | apply Kd.R_drew)); exact HO_6.out, by repeat (first | (with_reducible first | exact HI0.out | apply IsS116.alloc | apply IsS116.drewN | apply IsS116.drew | apply IsS116.set_0 | apply IsS116.set_1) | exact HI0.out), by repeat (first | (with_reducible first | exact HB.out | apply below_alloc | apply pw_below_drewN | apply below_drew1 | refine below_set ?_ (IsS116.ge HI0.out)) | exact HB.out), by repeat (first | (with_reducible first | exact HK.out | apply KeepBut.set_ | apply keep_drewN | apply keep_drew | apply keep_alloc) | exact HK.out)⟩
        · rw [if_neg c13] at H
          have c13b0 : (x1001_1 == 0) = false := beq_eq_false_iff_ne.mpr c13
          have c13b1 : (x1001_1 != 0) = true := bne_iff_ne.mpr c13
          simp only [Option.some.injEq, Prod.mk.injEq] at H
          obtain ⟨rfl, rfl, rfl⟩ := H
          obtain ⟨HGz15, hgz15⟩ := HI0.out
          have hcz15_0 := cellS116_0 HGz15
          have hcz15_1 := cellS116_1 HGz15
          have hfz15_0 := blk_frozen HGz15 0
          have hfz15_1 := blk_frozen HGz15 1
          clear HGz15 hgz15
          go_wp2
          go_ret
          exact ⟨_, by first | rfl | (simp [errW_none, errW_some] <;> rfl) | (simp [*, errW_none, errW_some] <;> rfl), by first | exact Kd.R_nil _ _ _ _ _ | exact Kd.N_nil _ _ _ _ _ | exact Kd.V_nil _ _ _ _ _ | exact Kd.Q_nil _ _ _ _ _ | exact Kd.S_nil _ _ _ _ _, by repeat (first | (with_reducible first | exact HI0.out | apply IsS116.alloc | apply IsS116.drewN | apply IsS116.drew | apply IsS116.set_0 | apply IsS116.set_1) | exact HI0.out), by repeat (first | (with_reducible first | exact HB.out | apply below_alloc | apply pw_below_drewN | apply below_drew1 | refine below_set ?_ (IsS116.ge HI0.out)) | exact HB.out), by repeat (first | (with_reducible first | exact HK.out | apply KeepBut.set_ | apply keep_drewN | apply keep_drew | apply keep_alloc) | exact HK.out)⟩

/-! ### octets_Open: function 52 -/
def octets_Open.f (a0 : ByteArray) : Option (ByteArray × Int) := some (a0, 0)
set_option maxHeartbeats 8000000 in
set_option maxRecDepth 100000 in
theorem octets_Open.calls (a0 : ByteArray) (r1 : ByteArray) (r2 : Int) (w0 w : World) (hB : Below w0.heap.size w0 w) (h : octets_Open.f a0 = some (r1, r2)) :
    Calls Try.prog 52 #[.string a0] w fun e w' => ∃ g_ : Nat, e = .returned (.pointer (some ⟨g_, 0, none⟩)) ∧ IsS153 w0 w' g_ r1 r2 ∧ Below w0.heap.size w0 w' ∧ Below w.heap.size w w' := by
  have hu153 := Try.underlying153
  have HBW := Aside0.mk (Below.refl w.heap.size w)
  have HW0 := Aside0.mk hB.size
  have HB := Aside0.mk hB
  clear hB
  have H : (some (a0, 0)) = some (r1, r2) := h
  clear h
  simp only [Option.some.injEq, Prod.mk.injEq] at H
  obtain ⟨rfl, rfl⟩ := H
  go_enter Try.func52, Try.ntmps52
  go_wp2_with (first | ((with_reducible refine gate_dst (N := 5) rfl ?_); refine box_event ?hg (N := 5) ?hd (cs := #[.string a0, .int .i64 0]) (t := 153) ?hr ?_; (case hd => rfl); (case hg => rfl); (case hr => first | (go_simp; done) | (go_simp; rfl)); intro gb180 hg w2 hbox hb; have n0_ := Aside0.mk (below_step HBW.out hb); have n1_ := Aside0.mk (below_step (by repeat (first | (with_reducible first | exact HB.out | apply below_alloc | apply pw_below_drewN | apply below_drew1) | exact HB.out)) hb); have n2_ := Aside0.mk (hbox); have n3_ := Aside0.mk ((by rw [hg]; exact (below_size (by repeat (first | (with_reducible first | exact HBW.out | apply below_alloc | apply pw_below_drewN | apply below_drew1) | exact HBW.out))) : w.heap.size ≤ gb180)); have n4_ := Aside0.mk ((Nat.le_trans HW0.out (by rw [hg]; exact (below_size (by repeat (first | (with_reducible first | exact HBW.out | apply below_alloc | apply pw_below_drewN | apply below_drew1) | exact HBW.out))) : w.heap.size ≤ gb180) : w0.heap.size ≤ gb180)); clear HBW; clear HB; have HBW := n0_; have HB := n1_; have BK180 := n2_; have GW180 := n3_; have GE180 := n4_; clear n0_ n1_ n2_ n3_ n4_; clear hb hbox hg))
  go_ret
  exact ⟨_, rfl, (show IsS153 w0 _ gb180 a0 0 from ⟨by (with_reducible repeat (first | refine blk_drewN ?_ _ | refine blk_drew ?_ | refine blk_alloc ?_ _)); exact BK180.out, GE180.out⟩), by repeat (first | (with_reducible first | exact HB.out | apply below_alloc | apply pw_below_drewN | apply below_drew1 | refine below_set ?_ GE180.out) | exact HB.out), by repeat (first | (with_reducible first | exact HBW.out | apply below_alloc | apply pw_below_drewN | apply below_drew1 | refine below_set ?_ GW180.out) | exact HBW.out)⟩

end Go.Proofs.Ytnajmemcdipknaa.PK
namespace Go.Proofs.Ytnajmemcdipknaa.PK
open Go.RowKit Go.Proofs.YtnajmemcdipknaaW.PrintWords Go.Proofs.YtnajmemcdipknaaW.PrintLast Go.Proofs.YtnajmemcdipknaaW.PrintMore
set_option linter.unusedVariables false
set_option linter.unusedSimpArgs false
set_option maxRecDepth 100000

theorem ediv2 (m a b : Int) (ha : 0 ≤ a) : m / (a * b) = m / a / b := by rw [Int.ediv_ediv, if_neg (by omega)]; omega
theorem p256_pos (k : Nat) : (0 : Int) < 256 ^ k := Int.pow_pos (by omega)
theorem p256_succ (k : Nat) : (256 : Int) ^ (k + 1) = 256 * 256 ^ k := by rw [Int.pow_succ, Int.mul_comm]
/-- The digits of m are d: no more, no less. -/
def Digs (d : Nat) (m : Int) : Prop := 0 ≤ m ∧ m < 256 ^ d ∧ (∀ e, d = e + 1 → 256 ^ e ≤ m)
theorem digs_zero (m : Int) : Digs 0 m ↔ m = 0 := by
  unfold Digs; simp; omega
theorem digs_succ (d : Nat) (m : Int) : Digs (d + 1) m ↔ 0 < m ∧ Digs d (m / 256) := by
  have hp := p256_pos d
  constructor
  · rintro ⟨h0, h1, h2⟩
    have h2 := h2 d rfl
    rw [p256_succ] at h1
    refine ⟨by omega, by omega, by omega, fun e he => ?_⟩
    subst he
    rw [p256_succ] at h2
    omega
  · rintro ⟨h0, h1, h2, h3⟩
    refine ⟨by omega, by rw [p256_succ]; omega, fun e he => ?_⟩
    obtain rfl : d = e := by omega
    cases d with
    | zero => simp; omega
    | succ e => have := h3 e rfl; rw [p256_succ]; omega
theorem digs_nb (m : Int) (h0 : 0 ≤ m) (h1 : m ≤ 72057594037927935) : Digs (nb m) m := by
  unfold nb
  have e : ∀ d : Nat, d ≤ 7 → (256 : Int) ^ d < 256 ^ d + 1 := fun d _ => by omega
  unfold Digs
  repeat' split
  · refine ⟨h0, by omega, fun e he => by omega⟩
  · refine ⟨h0, by omega, fun e he => ?_⟩; obtain rfl : e = 0 := by omega
    simp; omega
  · refine ⟨h0, by omega, fun e he => ?_⟩; obtain rfl : e = 1 := by omega
    omega
  · refine ⟨h0, by omega, fun e he => ?_⟩; obtain rfl : e = 2 := by omega
    omega
  · refine ⟨h0, by omega, fun e he => ?_⟩; obtain rfl : e = 3 := by omega
    omega
  · refine ⟨h0, by omega, fun e he => ?_⟩; obtain rfl : e = 4 := by omega
    omega
  · refine ⟨h0, by omega, fun e he => ?_⟩; obtain rfl : e = 5 := by omega
    omega
  · refine ⟨h0, by omega, fun e he => ?_⟩; obtain rfl : e = 6 := by omega
    omega
theorem digs_inj (d e : Nat) (m : Int) (h : Digs d m) (k : Digs e m) : d = e := by
  induction d generalizing e m with
  | zero =>
    rw [digs_zero] at h
    cases e with
    | zero => rfl
    | succ e => rw [digs_succ] at k; omega
  | succ d ih =>
    rw [digs_succ] at h
    cases e with
    | zero => rw [digs_zero] at k; omega
    | succ e => rw [digs_succ] at k; rw [ih e _ h.2 k.2]
theorem beL_snoc (d : Nat) (m : Int) : beL (d + 1) m = beL d (m / 256) ++ [m % 256] := by
  induction d with
  | zero => simp [beL]
  | succ d ih =>
    have e : m / 256 ^ (d + 1) = m / 256 / 256 ^ d := by
      rw [p256_succ, ediv2 _ _ _ (by omega)]
    show (m / 256 ^ (d + 1)) % 256 :: beL (d + 1) m = ((m / 256) / 256 ^ d) % 256 :: beL d (m / 256) ++ [m % 256]
    rw [e, ih]
    rfl
theorem beL_get (k : Nat) (m : Int) (j : Nat) (h : j < k) : (beL k m).getD j 0 = (m / 256 ^ (k - 1 - j)) % 256 := by
  induction k generalizing j with
  | zero => omega
  | succ k ih =>
    cases j with
    | zero => simp [beL]
    | succ j =>
      show (beL k m).getD j 0 = _
      rw [ih j (by omega)]
      congr 3
      omega
/-- The value of the bytes that a number's digits are. -/
theorem valB_of (s : ByteArray) (K : Nat) (m : Int) (h0 : 0 ≤ m) (h1 : m < 256 ^ K) (hb : ∀ j : Nat, j < K → bt s ((j : Int) + 1) = (m / 256 ^ (K - 1 - j)) % 256) (i : Nat) (hi : i ≤ K) : valB s i = m / 256 ^ (K - i) := by
  induction i with
  | zero =>
    simp only [valB, Nat.sub_zero]
    rw [Int.ediv_eq_zero_of_lt h0 h1]
  | succ i ih =>
    simp only [valB]
    rw [ih (by omega), hb i (by omega)]
    have e1 : K - i = (K - (i + 1)) + 1 := by omega
    have e2 : K - 1 - i = K - (i + 1) := by omega
    rw [e1, e2, p256_succ]
    have : m / (256 * 256 ^ (K - (i + 1))) = m / 256 ^ (K - (i + 1)) / 256 := by
      rw [Int.mul_comm, ediv2 _ _ _ (by have := p256_pos (K - (i + 1)); omega)]
    rw [this]
    omega
theorem valB_digits (s : ByteArray) (K : Nat) (j : Nat) (h : j < K) : bt s ((j : Int) + 1) = (valB s K / 256 ^ (K - 1 - j)) % 256 := by
  induction K with
  | zero => omega
  | succ K ih =>
    simp only [valB]
    have hb := bt_range s ((K : Int) + 1)
    rcases Nat.lt_or_ge j K with hj | hj
    · have e : K + 1 - 1 - j = (K - 1 - j) + 1 := by omega
      rw [e, p256_succ, ediv2 _ _ _ (by omega)]
      have : (valB s K * 256 + bt s ((K : Int) + 1)) / 256 = valB s K := by omega
      rw [this]
      exact ih hj
    · obtain rfl : j = K := by omega
      have e : j + 1 - 1 - j = 0 := by omega
      rw [e]
      simp
      omega
theorem head_get (l : List Int) (t : ByteArray) (s : ByteArray) (hs : bytesOf s = l ++ bytesOf t) (j : Nat) (hj : j < l.length) : bt s (j : Int) = l.getD j 0 := by
  rw [bt_nat, hs, List.getD_eq_getElem?_getD, List.getElem?_append_left hj, List.getD_eq_getElem?_getD]
theorem putL_form (n : Int) (h : -9007199254740992 ≤ n ∧ n ≤ 9007199254740992) : ∃ (sg m : Int) (K : Nat), putL n = (sg + K) :: beL K m ∧ Digs K m ∧ K ≤ 7 ∧ 0 ≤ m ∧ m ≤ 9007199254740992 ∧ ((sg = 0 ∧ n = m) ∨ (sg = 128 ∧ n = -m ∧ 0 < m)) := by
  unfold putL
  rw [if_neg (by omega)]
  split
  · exact ⟨128, -n, nb (-n), rfl, digs_nb _ (by omega) (by omega), nb_le _, by omega, by omega, .inr ⟨rfl, by omega, by omega⟩⟩
  · exact ⟨0, n, nb n, by simp, digs_nb _ (by omega) (by omega), nb_le _, by omega, by omega, .inl ⟨rfl, rfl⟩⟩
/-- Get, behind what Put made. -/
theorem get_put (n : Int) (h : -9007199254740992 ≤ n ∧ n ≤ 9007199254740992) (s t : ByteArray) (hs : bytesOf s = putL n ++ bytesOf t) : getA s = (n, ((putL n).length : Int), 0) := by
  obtain ⟨sg, m, K, hp, hd, hK, hm0, hm1, hc⟩ := putL_form n h
  have hl : (putL n).length = K + 1 := by rw [hp]; simp [beL_length]
  have hsz : s.size = K + 1 + t.size := by
    have := congrArg List.length hs
    rw [List.length_append, bytesOf_len, bytesOf_len, hl] at this
    exact this
  have b0 : bt s 0 = sg + K := by
    have := head_get (putL n) t s hs 0 (by omega)
    rw [hp] at this
    exact this
  have bj : ∀ j : Nat, j < K → bt s ((j : Int) + 1) = (m / 256 ^ (K - 1 - j)) % 256 := by
    intro j hj
    have := head_get (putL n) t s hs (j + 1) (by omega)
    rw [hp] at this
    have e : ((j + 1 : Nat) : Int) = (j : Int) + 1 := by omega
    rw [e] at this
    rw [this]
    exact beL_get K m j hj
  have hv : valB s K = m := by
    have := valB_of s K m hm0 hd.2.1 bj K (Nat.le_refl _)
    rw [Nat.sub_self] at this
    simpa using this
  have hk : bt s 0 % 128 = K := by rw [b0]; rcases hc with ⟨rfl, _⟩ | ⟨rfl, _⟩ <;> omega
  have hk' : (bt s 0 % 128).toNat = K := by omega
  have h1 : K > 0 → bt s 1 ≠ 0 := by
    intro hk0
    have := bj 0 hk0
    simp only [Int.natCast_zero, Int.zero_add, Nat.sub_zero] at this
    have hlo := hd.2.2 (K - 1) (by omega)
    have hhi := hd.2.1
    have e : K = (K - 1) + 1 := by omega
    rw [e, p256_succ] at hhi
    have hp := p256_pos (K - 1)
    rw [this]
    have a1 : 1 ≤ m / 256 ^ (K - 1) := Int.le_ediv_of_mul_le hp (by omega)
    have a2 : m / 256 ^ (K - 1) < 256 := Int.ediv_lt_of_lt_mul hp (by omega)
    omega
  have hz : ¬ s.size = 0 := by omega
  have c1 : ¬ (bt s 0 % 128 > 7 ∨ 128 ≤ bt s 0 ∧ bt s 0 % 128 = 0) := by
    rw [hk]
    rintro (h | ⟨h, h'⟩)
    · omega
    · rcases hc with ⟨rfl, _⟩ | ⟨rfl, _, hpos⟩
      · omega
      · have : K = 0 := by omega
        subst this
        have := (digs_zero m).mp hd
        omega
  have c2 : ¬ ((s.size : Int) ≤ bt s 0 % 128) := by omega
  have c3 : ¬ (valB s (bt s 0 % 128).toNat > 9007199254740992 ∨ bt s 0 % 128 > 0 ∧ bt s 1 = 0) := by
    rw [hk', hv]
    rintro (h | ⟨h, h'⟩)
    · omega
    · exact h1 (by omega) h'
  unfold getA
  rw [if_neg hz, if_neg c1, if_neg c2, if_neg c3, hk', hv, hk, hl]
  rcases hc with ⟨rfl, rfl⟩ | ⟨rfl, rfl, hpos⟩
  · rw [if_neg (by omega)]; rfl
  · rw [if_pos (by omega)]; rfl
/-- Where Get tells a number, the bytes are those that Put makes of it. -/
theorem put_get (s : ByteArray) (n k : Int) (h : getA s = (n, k, 0)) : putL n = (bytesOf s).take k.toNat ∧ 1 ≤ k ∧ k ≤ s.size ∧ k ≤ 8 ∧ -9007199254740992 ≤ n ∧ n ≤ 9007199254740992 := by
  have hb0 := bt_range s 0
  unfold getA at h
  split at h
  · simp at h
  · rename_i hz
    split at h
    · simp at h
    · rename_i c1
      split at h
      · simp at h
      · rename_i c2
        split at h
        · simp at h
        · rename_i c3
          simp only [Prod.mk.injEq, and_true] at h
          obtain ⟨hn, rfl⟩ := h
          obtain ⟨K, hK⟩ : ∃ K : Nat, (K : Int) = bt s 0 % 128 := ⟨(bt s 0 % 128).toNat, by omega⟩
          rw [← hK] at c1 c2 c3 hn ⊢
          rw [Int.toNat_natCast] at c3 hn
          have hv := valB_range s K
          have hd : Digs K (valB s K) := by
            refine ⟨hv.1, hv.2, fun e he => ?_⟩
            subst he
            have h1 : bt s 1 ≠ 0 := fun h => c3 (.inr ⟨by omega, h⟩)
            have hr1 := bt_range s 1
            have := valB_digits s (e + 1) 0 (by omega)
            simp only [Int.natCast_zero, Int.zero_add] at this
            have e2 : e + 1 - 1 - 0 = e := by omega
            rw [e2] at this
            have hp := p256_pos e
            rcases (show valB s (e + 1) < 256 ^ e ∨ 256 ^ e ≤ valB s (e + 1) from by omega) with hlt | hge
            · rw [Int.ediv_eq_zero_of_lt hv.1 hlt] at this
              omega
            · exact hge
          have hle : valB s K ≤ 9007199254740992 := by
            rcases (show 9007199254740992 < valB s K ∨ valB s K ≤ 9007199254740992 from by omega) with h | h
            · exact absurd (.inl h) c3
            · exact h
          have hnb : nb (valB s K) = K := digs_inj _ _ _ (digs_nb _ hv.1 (by omega)) hd
          have htk : ((K : Int) + 1).toNat = K + 1 := by omega
          have tail : beL K (valB s K) = (List.range K).map fun (j : Nat) => bt s ((j : Int) + 1) := by
            apply List.ext_getElem
            · simp [beL_length]
            · intro i h1 h2
              have hi : i < K := by rw [beL_length] at h1; exact h1
              have := beL_get K (valB s K) i hi
              rw [List.getD_eq_getElem?_getD, List.getElem?_eq_getElem h1] at this
              simp only [Option.getD_some] at this
              rw [this, ← valB_digits s K i hi]
              simp
          have whole : (bytesOf s).take (K + 1) = bt s 0 :: beL K (valB s K) := by
            rw [bytes_take s (K + 1) (by omega), tail, List.range_succ_eq_map]
            simp [Function.comp]
          rw [htk, whole]
          refine ⟨?_, by omega, by omega, by omega, ?_⟩
          · by_cases hb : 128 ≤ bt s 0
            · rw [if_pos hb] at hn
              have hpos : 0 < valB s K := by
                rcases Nat.eq_zero_or_pos K with hk0 | hk0
                · exact absurd (.inr ⟨hb, by omega⟩) c1
                · have := hd.2.2 (K - 1) (by omega)
                  have := p256_pos (K - 1)
                  omega
              subst hn
              unfold putL
              rw [if_neg (by omega), if_pos (by omega), Int.neg_neg, hnb]
              congr 1
              omega
            · rw [if_neg hb] at hn
              subst hn
              unfold putL
              rw [if_neg (by omega), if_neg (by omega), hnb]
              congr 1
              omega
          · split at hn <;> omega
end Go.Proofs.Ytnajmemcdipknaa.PK
namespace Go.Proofs.Ytnajmemcdipknaa.PK
open Go.RowKit Go.Proofs.YtnajmemcdipknaaW.PrintWords Go.Proofs.YtnajmemcdipknaaW.PrintLast Go.Proofs.YtnajmemcdipknaaW.PrintMore
set_option linter.unusedVariables false
set_option linter.unusedSimpArgs false
set_option maxRecDepth 100000
theorem strOf_append (a b : List Int) : strOfNums (a ++ b) = strOfNums a ++ strOfNums b := by
  apply ByteArray.ext
  unfold strOfNums
  rw [ByteArray.data_append]
  simp
theorem app_assoc (a b c : ByteArray) : a ++ b ++ c = a ++ (b ++ c) := by
  apply ByteArray.ext
  simp [ByteArray.data_append]
theorem app_empty (a : ByteArray) : a ++ (⟨#[]⟩ : ByteArray) = a := by
  apply ByteArray.ext
  simp [ByteArray.data_append]
theorem w64 (x : Int) (h0 : -9223372036854775808 ≤ x) (h1 : x ≤ 9223372036854775807) : wrap64 x = x := by unfold wrap64; omega
theorem refPut_l0 (x3 : Int) (h3 : 0 ≤ x3 ∧ x3 ≤ 128) (d : Nat) : ∀ (m : Int) (s : ByteArray) (k : Nat), Digs d m → d + s.size ≤ 7 → m ≤ 9007199254740992 → d < k →
    primerref01_Put.l0 k m x3 s = some (strOfNums ((x3 + ((d + s.size : Nat) : Int)) :: beL d m) ++ s) := by
  induction d with
  | zero =>
    intro m s k hd hs hm hk
    obtain ⟨k, rfl⟩ : ∃ j, k = j + 1 := ⟨k - 1, by omega⟩
    have hm0 := (digs_zero m).mp hd
    subst hm0
    simp only [primerref01_Put.l0]
    rw [if_neg (by omega), Option.bind_some, strOfNums_size, if_pos (by simp; omega), w64 _ (by omega) (by omega), Int.emod_eq_of_lt (by omega) (by omega)]
    simp [beL]
  | succ d ih =>
    intro m s k hd hs hm hk
    obtain ⟨k, rfl⟩ : ∃ j, k = j + 1 := ⟨k - 1, by omega⟩
    have hd' := (digs_succ d m).mp hd
    simp only [primerref01_Put.l0]
    have e1 : Int.tmod m 256 = m % 256 := Int.tmod_eq_emod_of_nonneg (by omega)
    have e2 : Int.tdiv m 256 = m / 256 := Int.tdiv_eq_ediv_of_nonneg (by omega)
    have e3 : m % 256 % 256 = m % 256 := by omega
    rw [if_pos hd'.1, Option.bind_some, strOfNums_size, if_pos (by simp; omega), e1, e2, e3, w64 _ (by omega) (by omega)]
    rw [ih (m / 256) (strOfNums [m % 256] ++ s) k hd'.2 (by rw [size_app, strOfNums_size]; simp; omega) (by omega) (by omega)]
    rw [beL_snoc, ← List.cons_append, strOf_append, app_assoc]
    have e4 : (d + (strOfNums [m % 256] ++ s).size : Nat) = d + 1 + s.size := by rw [size_app, strOfNums_size]; simp; omega
    rw [e4]
theorem refPut_eq (n : Int) (hw : -9223372036854775808 ≤ n ∧ n ≤ 9223372036854775807) (k : Nat) (hk : 11 ≤ k) : primerref01_Put.f k n = some (strOfNums (putL n)) := by
  unfold primerref01_Put.f
  obtain ⟨k, rfl⟩ : ∃ j, k = j + 1 + 1 := ⟨k - 2, by omega⟩
  unfold putL
  by_cases h1 : n < -9007199254740992
  · rw [if_pos h1, if_pos (.inl h1)]
    simp only [primerref01_Put.j0, if_true]
    rfl
  · rw [if_neg h1]
    by_cases h2 : 9007199254740992 < n
    · rw [if_pos (.inr h2)]
      have : decide (n > 9007199254740992) = true := by simp; omega
      rw [this]
      simp only [primerref01_Put.j0, if_true]
      rfl
    · rw [if_neg (by omega)]
      have : decide (n > 9007199254740992) = false := by simp; omega
      rw [this]
      simp only [primerref01_Put.j0, Bool.false_eq_true, if_false, primerref01_Put.j1]
      by_cases h3 : n < 0
      · have h7 := nb_le (-n)
        rw [if_pos h3, if_pos h3, w64 _ (by omega) (by omega), refPut_l0 128 (by omega) (nb (-n)) (-n) _ k (digs_nb _ (by omega) (by omega)) (by show nb (-n) + 0 ≤ 7; omega) (by omega) (by omega), app_empty]
        rfl
      · have h7 := nb_le n
        rw [if_neg h3, if_neg h3, refPut_l0 0 (by omega) (nb n) n _ k (digs_nb _ (by omega) (by omega)) (by show nb n + 0 ≤ 7; omega) (by omega) (by omega), app_empty, Int.zero_add]
        rfl
end Go.Proofs.Ytnajmemcdipknaa.PK
namespace Go.Proofs.Ytnajmemcdipknaa.PK
open Go.RowKit Go.Proofs.YtnajmemcdipknaaW.PrintWords Go.Proofs.YtnajmemcdipknaaW.PrintLast Go.Proofs.YtnajmemcdipknaaW.PrintMore
set_option linter.unusedVariables false
set_option linter.unusedSimpArgs false
set_option maxRecDepth 100000
def nanB (b : Nat) : Bool := decide (9218868437227405312 < b % 9223372036854775808)
def canonB (b : Nat) : Nat := if nanB b then 9221120237041090561 else if b % 9223372036854775808 = 0 then 0 else b
theorem canonB_lt {b : Nat} (h : b < 18446744073709551616) : canonB b < 18446744073709551616 := by
  unfold canonB; split
  · decide
  · split <;> omega
theorem read_nan {b : Nat} (h : nanB b = true) : ∃ s f, (FloatKind.format .f64).read b = .nan s f := by
  have h : 9218868437227405312 < b % 9223372036854775808 := by simpa [nanB] using h
  show ∃ s f, Ieee.Format.read Ieee.double b = .nan s f
  unfold Ieee.Format.read
  rw [show Ieee.double.signWeight = 9223372036854775808 from rfl, show Ieee.double.binade = 4503599627370496 from rfl, show Ieee.double.infRung = 9218868437227405312 from rfl]
  simp only
  rw [if_neg (by omega), if_neg (by omega), if_neg (by omega)]
  exact ⟨_, _, rfl⟩
theorem order_nan {b c : Nat} (h : nanB b = true) : (FloatKind.format .f64).order b c = none := by
  obtain ⟨s, f, e⟩ := read_nan h
  unfold Ieee.Format.order
  rw [e]
  rfl
theorem read_num {b : Nat} (h : nanB b = false) : (∃ s, (FloatKind.format .f64).read b = .infinity s ∧ b % 9223372036854775808 ≠ 0) ∨ ∃ s m p, (FloatKind.format .f64).read b = .number s m p ∧ (m = 0 ↔ b % 9223372036854775808 = 0) := by
  have h : ¬ 9218868437227405312 < b % 9223372036854775808 := by simpa [nanB] using h
  show (∃ s, Ieee.Format.read Ieee.double b = _ ∧ _) ∨ ∃ s m p, Ieee.Format.read Ieee.double b = _ ∧ _
  unfold Ieee.Format.read
  rw [show Ieee.double.signWeight = 9223372036854775808 from rfl, show Ieee.double.binade = 4503599627370496 from rfl, show Ieee.double.infRung = 9218868437227405312 from rfl]
  simp only
  by_cases h1 : b % 9223372036854775808 < 4503599627370496
  · exact .inr ⟨_, _, _, by rw [if_pos h1], by omega⟩
  · by_cases h2 : b % 9223372036854775808 < 9218868437227405312
    · exact .inr ⟨_, _, _, by rw [if_neg h1, if_pos h2], by omega⟩
    · exact .inl ⟨_, by rw [if_neg h1, if_neg h2, if_pos (by omega)], by omega⟩
theorem cmp_self (n : Int) : compare n n = .eq := by simp
theorem order_self {b : Nat} (h : nanB b = false) : (FloatKind.format .f64).order b b = some .eq := by
  unfold Ieee.Format.order
  rcases read_num h with ⟨s, e, _⟩ | ⟨s, m, p, e, _⟩
  · rw [e]; cases s <;> rfl
  · rw [e]
    simp only [Ieee.Datum.order]
    congr 1
    exact cmp_self _
theorem signed_zero (s : Bool) (m k : Nat) : Ieee.signed s m k = 0 ↔ m = 0 := by
  unfold Ieee.signed
  have hp : (m <<< k = 0) ↔ m = 0 := by
    rw [Nat.shiftLeft_eq, Nat.mul_eq_zero]
    have : 2 ^ k ≠ 0 := Nat.ne_of_gt (Nat.two_pow_pos k)
    simp [this]
  cases s
  · simp only [Bool.false_eq_true, if_false]; omega
  · simp only [if_true]; omega
theorem read_zero : (FloatKind.format .f64).read 0 = .number false 0 (-1074) := by decide +kernel
theorem order_zero {b : Nat} (h : nanB b = false) : ((FloatKind.format .f64).order b 0 == some .eq) = decide (b % 9223372036854775808 = 0) := by
  unfold Ieee.Format.order
  rw [read_zero]
  rcases read_num h with ⟨s, e, h0⟩ | ⟨s, m, p, e, h0⟩
  · rw [e]; cases s <;> simp [Ieee.Datum.order, h0]
  · rw [e]
    simp only [Ieee.Datum.order]
    rw [Bool.eq_iff_iff]
    simp only [beq_iff_eq, Option.some.injEq, decide_eq_true_eq, Int.compare_eq_eq]
    rw [(signed_zero false 0 _).mpr rfl, signed_zero, h0]
theorem bits_run (b : Nat) (w : World) : (callFunc 104 #[.float .f64 b]).run Try.prog w = .ok (.value (.int .u64 b)) w := by
  rw [run_callFunc_extern (e := Extern.MathFloatBits.float64bits) Try.func104 (by kernel_rfl) (by kernel_rfl) (by kernel_rfl) (by kernel_rfl)]
  rfl
theorem frombits_run (n : Int) (w : World) : (callFunc 81 #[.int .u64 n]).run Try.prog w = .ok (.value (.float .f64 n.toNat)) w := by
  rw [run_callFunc_extern (e := Extern.MathFloatBits.float64frombits) Try.func81 (by kernel_rfl) (by kernel_rfl) (by kernel_rfl) (by kernel_rfl)]
  rfl
theorem none_calls (w : World) : Calls Try.prog 134 #[] w fun e w' => e = .returned (.float .f64 9221120237041090561) ∧ w = w' := by
  have hf := frombits_run 9221120237041090561
  go_enter Try.func134, Try.ntmps134
  go_wp2
  go_ret
  exact ⟨rfl, rfl⟩
theorem none2_calls (w : World) : Calls Try.prog 136 #[] w fun e w' => e = .returned (.float .f64 9221120237041090561) ∧ w = w' := by
  have hf := frombits_run 9221120237041090561
  go_enter Try.func136, Try.ntmps136
  go_wp2
  go_ret
  exact ⟨rfl, rfl⟩
theorem canon_calls (b : Nat) (hb : b < 18446744073709551616) (w : World) : Calls Try.prog 105 #[.float .f64 b] w fun e w' => e = .returned (.float .f64 (canonB b)) ∧ w = w' := by
  cases hn : nanB b
  · have h1 : ((FloatKind.format .f64).order b b != some .eq) = false := by rw [order_self hn]; rfl
    have h2 := order_zero hn
    by_cases h0 : b % 9223372036854775808 = 0
    · have e : canonB b = 0 := by unfold canonB; rw [hn, if_neg (by simp), if_pos h0]
      rw [show decide (b % 9223372036854775808 = 0) = true by simp [h0]] at h2
      have E := Aside0.mk e
      clear hn h0 e
      go_enter Try.func105, Try.ntmps105
      go_wp2
      go_ret
      exact ⟨by rw [E.out]; rfl, rfl⟩
    · have e : canonB b = b := by unfold canonB; rw [hn, if_neg (by simp), if_neg h0]
      rw [show decide (b % 9223372036854775808 = 0) = false by simp [h0]] at h2
      have E := Aside0.mk e
      clear hn h0 e
      go_enter Try.func105, Try.ntmps105
      go_wp2
      go_ret
      exact ⟨by rw [E.out]; rfl, rfl⟩
  · have h1 : ((FloatKind.format .f64).order b b != some .eq) = true := by rw [order_nan hn]; rfl
    have e : canonB b = 9221120237041090561 := by unfold canonB; rw [if_pos hn]
    have E := Aside0.mk e
    clear hn e
    go_enter Try.func105, Try.ntmps105
    go_wp2_with (go_at_call 134; refine (none_calls _).mono ?_; rintro e w' ⟨rfl, rfl⟩)
    go_ret
    exact ⟨by rw [E.out]; rfl, rfl⟩
theorem ofInt_u64 (a : Nat) (ha : a < 18446744073709551616) : (BitVec.ofInt 64 (a : Int)).toNat = a := by
  rw [BitVec.ofInt_natCast, BitVec.toNat_ofNat]; exact Nat.mod_eq_of_lt (by omega)
theorem u64_and_nat (a b : Nat) (ha : a < 18446744073709551616) (hb : b < 18446744073709551616) : Go.bits .and .u64 (a : Int) (b : Int) = ((a &&& b : Nat) : Int) := by
  have hx : a &&& b ≤ a := Nat.and_le_left
  show IntKind.u64.wrap ((BitVec.ofInt 64 (a : Int) &&& BitVec.ofInt 64 (b : Int)).toNat : Int) = _
  rw [BitVec.toNat_and, ofInt_u64 a ha, ofInt_u64 b hb]
  exact IntWalk.u64_in _ (by omega)
theorem and_low (n : Nat) (hn : n < 18446744073709551616) : Go.bits .and .u64 (n : Int) 4503599627370495 = ((n % 4503599627370496 : Nat) : Int) := by
  have h := u64_and_nat n 4503599627370495 hn (by omega)
  rw [show (4503599627370495 : Nat) = 2 ^ 52 - 1 from rfl, Nat.and_two_pow_sub_one_eq_mod] at h
  exact h
theorem nat_and_high (n : Nat) : n &&& 9218868437227405312 = n / 4503599627370496 % 2048 * 4503599627370496 := by
  have e : n / 4503599627370496 % 2048 * 4503599627370496 = ((n >>> 52) &&& (2 ^ 11 - 1)) <<< 52 := by
    rw [Nat.and_two_pow_sub_one_eq_mod, Nat.shiftLeft_eq, Nat.shiftRight_eq_div_pow]
  rw [e, show (9218868437227405312 : Nat) = (2 ^ 11 - 1) <<< 52 from rfl]
  apply Nat.eq_of_testBit_eq
  intro i
  simp only [Nat.testBit_and, Nat.testBit_shiftLeft, Nat.testBit_shiftRight]
  by_cases h : 52 ≤ i
  · have : 52 + (i - 52) = i := by omega
    simp [h, this]
  · simp [h]
theorem and_high (n : Nat) (hn : n < 18446744073709551616) : Go.bits .and .u64 (n : Int) 9218868437227405312 = ((n / 4503599627370496 % 2048 * 4503599627370496 : Nat) : Int) := by
  have h := u64_and_nat n 9218868437227405312 hn (by omega)
  rw [nat_and_high] at h
  exact h
theorem nanB_parts (b : Nat) : nanB b = (decide (b / 4503599627370496 % 2048 * 4503599627370496 = 9218868437227405312) && decide (b % 4503599627370496 ≠ 0)) := by
  unfold nanB
  rw [Bool.eq_iff_iff]
  simp only [decide_eq_true_eq, Bool.and_eq_true]
  omega
theorem nan_calls (b : Nat) (hb : b < 18446744073709551616) (w : World) : Calls Try.prog 135 #[.float .f64 b] w fun e w' => e = .returned (.bool (nanB b)) ∧ w = w' := by
  have hf := bits_run b
  have h1 := and_low b hb
  have h2 := and_high b hb
  have hp := nanB_parts b
  obtain ⟨lo, hlo⟩ : ∃ lo, b % 4503599627370496 = lo := ⟨_, rfl⟩
  obtain ⟨hi, hhi⟩ : ∃ hi, b / 4503599627370496 % 2048 * 4503599627370496 = hi := ⟨_, rfl⟩
  rw [hlo] at h1 hp
  rw [hhi] at h2 hp
  clear hlo hhi
  have HP := Aside0.mk hp
  clear hp hb
  by_cases c1 : hi = 9218868437227405312
  · have c1' : ((hi : Int) == 9218868437227405312) = true := by rw [beq_iff_eq]; omega
    by_cases c2 : lo = 0
    · have c2' : ((lo : Int) != 0) = false := by rw [bne_eq_false_iff_eq]; omega
      have HN : Aside0 (nanB b = false) := ⟨by rw [HP.out]; simp [c2]⟩
      clear c1 c2
      go_enter Try.func135, Try.ntmps135
      go_wp2
      go_ret
      exact ⟨by rw [HN.out]; rfl, rfl⟩
    · have c2' : ((lo : Int) != 0) = true := by rw [bne_iff_ne]; omega
      have HN : Aside0 (nanB b = true) := ⟨by rw [HP.out]; simp [c1, c2]⟩
      clear c1 c2
      go_enter Try.func135, Try.ntmps135
      go_wp2
      go_ret
      exact ⟨by rw [HN.out]; rfl, rfl⟩
  · have c1' : ((hi : Int) == 9218868437227405312) = false := by rw [beq_eq_false_iff_ne]; omega
    have HN : Aside0 (nanB b = false) := ⟨by rw [HP.out]; simp [c1]⟩
    clear c1
    go_enter Try.func135, Try.ntmps135
    go_wp2
    go_ret
    exact ⟨by rw [HN.out]; rfl, rfl⟩
theorem canon2_calls (b : Nat) (hb : b < 18446744073709551616) (w : World) : Calls Try.prog 106 #[.float .f64 b] w fun e w' => e = .returned (.float .f64 (canonB b)) ∧ w = w' := by
  cases hn : nanB b
  · have HNN := Aside0.mk hn
    have hf := bits_run b
    by_cases h0 : b = 9223372036854775808
    · have h0' : ((b : Int) == 9223372036854775808) = true := by rw [beq_iff_eq]; omega
      have e : canonB b = 0 := by unfold canonB; rw [hn, if_neg (by simp), if_pos (by omega)]
      have E := Aside0.mk e
      have HB := Aside0.mk hb
      clear hn h0 e hb
      go_enter Try.func106, Try.ntmps106
      go_wp2_with (go_at_call 135; refine (nan_calls b HB.out _).mono ?_; rintro e w' ⟨rfl, rfl⟩; rw [HNN.out])
      go_ret
      exact ⟨by rw [E.out]; rfl, rfl⟩
    · have h0' : ((b : Int) == 9223372036854775808) = false := by rw [beq_eq_false_iff_ne]; omega
      have e : canonB b = b := by
        unfold canonB; rw [hn, if_neg (by simp)]
        split
        · omega
        · rfl
      have E := Aside0.mk e
      have HB := Aside0.mk hb
      clear hn h0 e hb
      go_enter Try.func106, Try.ntmps106
      go_wp2_with (go_at_call 135; refine (nan_calls b HB.out _).mono ?_; rintro e w' ⟨rfl, rfl⟩; rw [HNN.out])
      go_ret
      exact ⟨by rw [E.out]; rfl, rfl⟩
  · have e : canonB b = 9221120237041090561 := by unfold canonB; rw [if_pos hn]
    have E := Aside0.mk e
    have HNN := Aside0.mk hn
    have HB := Aside0.mk hb
    clear hn e hb
    go_enter Try.func106, Try.ntmps106
    go_wp2_with (first
      | (go_at_call 135; refine (nan_calls b HB.out _).mono ?_; rintro e w' ⟨rfl, rfl⟩; rw [HNN.out])
      | (go_at_call 136; refine (none2_calls _).mono ?_; rintro e w' ⟨rfl, rfl⟩))
    go_ret
    exact ⟨by rw [E.out]; rfl, rfl⟩
end Go.Proofs.Ytnajmemcdipknaa.PK
