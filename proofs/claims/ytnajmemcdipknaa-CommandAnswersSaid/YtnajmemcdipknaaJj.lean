/- CommandAnswers, the plain law and the walk. Condition: the bytes take no more than 2^47. -/
import Derived.Test.YtnajmemcdipknaaJi
namespace Go.Proofs.Ytnajmemcdipknaa.PK
open Go.RowKit Go.Proofs.YtnajmemcdipknaaW.PrintWords Go.Proofs.YtnajmemcdipknaaW.PrintLast Go.Proofs.YtnajmemcdipknaaW.PrintMore
open Go.ChangeShapes Go.WideShapes
set_option linter.unusedVariables false
set_option linter.unusedSimpArgs false
set_option maxRecDepth 100000
theorem getM_lt (x : ByteArray) : (getM x).1 < 18446744073709551616 := by
  have h := valM_le8 x
  unfold getM
  split
  · decide
  · split
    · decide
    · split
      · show (valM x 8).toNat < _; omega
      · decide
theorem getM_ok {x : ByteArray} (h : (getM x).2 = 0) : putM (getM x).1 = x := by
  unfold getM at h ⊢
  split at h
  · exact absurd h (by decide)
  · rename_i h1
    split at h
    · exact absurd h (by decide)
    · rename_i h2
      split at h
      · rename_i h3
        rw [if_neg h1, if_neg h2, if_pos h3]
        have hv := valM_le8 x
        exact (put_is x (by omega) (valM x 8).toNat (by omega)).mpr h3
      · exact absurd h (by decide)
theorem valMs_lt (l : List ByteArray) : ∀ x ∈ valMs l, x < 18446744073709551616 := by
  intro x hx
  unfold valMs at hx
  obtain ⟨y, _, rfl⟩ := List.mem_map.1 hx
  exact getM_lt y
theorem valMs_put {l : List ByteArray} (h : badMs l = false) : (valMs l).map putM = l := by
  unfold badMs at h
  rw [List.any_eq_false] at h
  unfold valMs
  rw [List.map_map]
  have : ∀ x ∈ l, (putM ∘ fun x => (getM x).1) x = x := fun x hx => getM_ok (by have := h x hx; simpa using this)
  rw [List.map_congr_left this, List.map_id']
theorem getR_ms (s : ByteArray) : ∀ x ∈ (getR s).1.ms, x < 18446744073709551616 := by
  unfold getR
  split
  · intro x hx; simp [zeroR] at hx
  · split
    · intro x hx; simp [zeroR] at hx
    · split
      · intro x hx; simp [zeroR] at hx
      · split
        · exact valMs_lt _
        · intro x hx; simp [zeroR] at hx
theorem badTexts_ok {xs : List ByteArray} (h1 : xs.length ≤ 65536) (h2 : ∀ x ∈ xs, x.size ≤ 65536) : badTexts xs = false := by
  unfold badTexts
  rw [show decide ((xs.length : Int) ≤ 65536) = true by simp; omega, Bool.not_true, Bool.false_or, List.any_eq_false]
  intro s hs
  have := h2 s hs
  simp; omega
theorem repL_rng (code line col cnt : Int) (tx : ByteArray) (ts : List ByteArray) (ms : List Nat) : ∀ y ∈ repL code line col cnt tx ts ms, 0 ≤ y ∧ y ≤ 255 := by
  intro y hy
  unfold repL at hy
  simp only [List.mem_append] at hy
  rcases hy with ((((((h | h) | h) | h) | h) | h) | h) | h
  · simp at h
  all_goals first | exact putL_range _ y h | exact textL_rng _ y h | exact textsL_rng _ y h
theorem put_get_rep (s : ByteArray) (code line col cnt : Int) (tx : ByteArray) (ts : List ByteArray) (ms : List Nat) (h : getR s = (⟨code, line, col, cnt, tx, ts, ms⟩, 0)) : putR code line col cnt tx ts ms = s := by
  unfold getR at h
  split at h
  · rename_i h1
    injection h with h2 h3
    exact absurd h3 h1
  rename_i h1
  have h1 : (q6 s).2.2 = 0 := Decidable.not_not.mp h1
  split at h
  · injection h with h2 h3
    exact absurd h3 (by decide)
  split at h
  · injection h with h2 h3
    exact absurd h3 (by decide)
  rename_i hb
  split at h
  rotate_left
  · injection h with h2 h3
    exact absurd h3 (by decide)
  rename_i hz
  injection h with h2 _
  injection h2 with x0 x1 x2 x3 x4 x5 x6
  have hb : badMs (q6 s).1 = false := by cases hq : badMs (q6 s).1 <;> simp_all
  have hmap := valMs_put hb
  have e6 : q6 s = ((q6 s).1, (q6 s).2.1, 0) := by rw [← h1]
  obtain ⟨z5, b6, l6, _, s6⟩ := un_texts (show inTexts (q5 s).2.1 (q5 s).2.2 4096 = _ from e6)
  have e5 : q5 s = ((q5 s).1, (q5 s).2.1, 0) := by rw [← z5]
  obtain ⟨z4, b5, l5, _, s5⟩ := un_texts (show inTexts (q4 s).2.1 (q4 s).2.2 4096 = _ from e5)
  have e4 : q4 s = ((q4 s).1, (q4 s).2.1, 0) := by rw [← z4]
  obtain ⟨z3, b4, t4⟩ := un_text (show inText (q3 s).2.1 (q3 s).2.2 = _ from e4)
  have e3 : q3 s = ((q3 s).1, (q3 s).2.1, 0) := by rw [← z3]
  obtain ⟨z2, b3, f3⟩ := un_int (show inInt (q2 s).2.1 (q2 s).2.2 = _ from e3)
  have e2 : q2 s = ((q2 s).1, (q2 s).2.1, 0) := by rw [← z2]
  obtain ⟨z1, b2, f2⟩ := un_int (show inInt (q1 s).2.1 (q1 s).2.2 = _ from e2)
  have e1 : q1 s = ((q1 s).1, (q1 s).2.1, 0) := by rw [← z1]
  obtain ⟨z0, b1, f1⟩ := un_int (show inInt (q0 s).2.1 (q0 s).2.2 = _ from e1)
  have e0 : q0 s = ((q0 s).1, (q0 s).2.1, 0) := by rw [← z0]
  obtain ⟨_, b0, f0⟩ := un_int (show inInt s 0 = _ from e0)
  have bz : bytesOf (q6 s).2.1 = [] := List.eq_nil_of_length_eq_zero (by rw [bytesOf_len]; exact hz)
  subst x0; subst x1; subst x2; subst x3; subst x4; subst x5; subst x6
  have hlen : (valMs (q6 s).1).length = (q6 s).1.length := by unfold valMs; rw [List.length_map]
  have hbad : repBad (q0 s).1 (q1 s).1 (q2 s).1 (q3 s).1 (q4 s).1 (q5 s).1 (valMs (q6 s).1) = false := by
    unfold repBad
    rw [f0, f1, f2, f3, hmap, badTexts_ok (by omega) s5, badTexts_ok (by omega) s6]
    simp
    omega
  apply bytesOf_inj
  unfold putR
  rw [if_neg (by omega), hbad, if_neg (by simp), strOf_bytes _ (repL_rng _ _ _ _ _ _ _), b0, b1, b2, b3, b4, b5, b6, bz]
  simp only [repL, hmap, List.append_assoc, List.append_nil, List.nil_append]
set_option maxHeartbeats 6400000 in
theorem answers_calls (s : ByteArray) (hs : s.size ≤ 140737488355328) (w : World) : Calls Try.prog 6 #[.string s] w fun e w' => e = .returned (.bool true) ∧ Below w.heap.size w w' := by
  have hu := Try.underlying44
  by_cases h : 3000 < s.size
  · have e1 : decide ((3000 : Int) < (s.size : Int)) = true := by simp; omega
    clear h
    go_enter Try.func6, Try.ntmps6
    go_wp2_with fail
    refine (speaks21_calls _).mono ?_
    rintro e w1 ⟨rfl, hb1⟩
    have HB1 := Aside0.mk hb1
    clear hb1
    go_wp2
    go_ret
    exact ⟨rfl, HB1.out⟩
  have e1 : decide ((3000 : Int) < (s.size : Int)) = false := by simp; omega
  clear h
  have HS := Aside0.mk hs
  clear hs
  have hms := getR_ms s
  have hg1 := fun w => cGetReply_calls s w
  have hg2 := fun w => rGetReply_calls s HS.out w
  obtain ⟨⟨code, line, col, cnt, tx, ts, ms⟩, er, hq⟩ : ∃ x er, getR s = (x, er) := ⟨_, _, rfl⟩
  rw [hq] at hms hg1 hg2
  have HQ := Aside0.mk hq
  have HMS := Aside0.mk hms
  have HG1 := Aside0.mk hg1
  have HG2 := Aside0.mk hg2
  clear hq hms hg1 hg2
  go_enter Try.func6, Try.ntmps6
  go_wp2_with fail
  refine (speaks21_calls _).mono ?_
  rintro e w1 ⟨rfl, hb1⟩
  have HB1 := Aside0.mk hb1
  clear hb1
  go_wp2_with fail
  refine (HG1.out _).mono ?_
  rintro e w2 ⟨A, cap, M, capm, rfl, hA, hca, hM, hcm, hb2⟩
  have HA : Aside0 (Kd.C Kd.string w2 A ts.length ts) := ⟨hA⟩
  have HCA : Aside0 (ts.length ≤ cap) := ⟨hca⟩
  have HM : Aside0 (Kd.C kF w2 M ms.length ms) := ⟨hM⟩
  have HB2 := Aside0.mk (below_then HB1.out HB1.out.size hb2)
  clear hA hca hM hcm hb2
  go_wp2_with fail
  refine (HG2.out _).mono ?_
  rintro e w3 ⟨B, cb, M2, cm2, rfl, hB, hcb, hM2, _, hb3⟩
  have HX3 := Aside0.mk ((hb3.block w2.heap.size (by simp)).trans (heap_alloc_new w2 _))
  have HB3 := Aside0.mk (below_then (below_alloc HB2.out _) (Nat.le_of_lt_succ (by have := HB2.out.size; simp; omega)) hb3)
  have hlt : w2.heap.size < w3.heap.size := blk_lt HX3.out
  have HA3 := Aside0.mk (Kd.C_below HA.out ((below_alloc (Below.refl w2.heap.size w2) _).trans (hb3.mono (by simp))))
  have HM3 := Aside0.mk (Kd.C_below HM.out ((below_alloc (Below.refl w2.heap.size w2) _).trans (hb3.mono (by simp))))
  have HB_ : Aside0 (Kd.C Kd.string w3 B ts.length ts) := ⟨hB⟩
  have HCB : Aside0 (ts.length ≤ cb) := ⟨hcb⟩
  have HM_ : Aside0 (Kd.C kF w3 M2 ms.length ms) := ⟨hM2⟩
  have zc0 : w3.cell? ⟨w2.heap.size, 0, none⟩ = some (.int .i64 code) := (blk_cell HX3.out 0).trans rfl
  have zc1 : w3.cell? ⟨w2.heap.size, 1, none⟩ = some (.int .i64 line) := (blk_cell HX3.out 1).trans rfl
  have zc2 : w3.cell? ⟨w2.heap.size, 2, none⟩ = some (.int .i64 col) := (blk_cell HX3.out 2).trans rfl
  have zc3 : w3.cell? ⟨w2.heap.size, 3, none⟩ = some (.int .i64 cnt) := (blk_cell HX3.out 3).trans rfl
  have zc4 : w3.cell? ⟨w2.heap.size, 4, none⟩ = some (.string tx) := (blk_cell HX3.out 4).trans rfl
  have zc5 : w3.cell? ⟨w2.heap.size, 5, none⟩ = some (.slice A ts.length cap) := (blk_cell HX3.out 5).trans rfl
  have zc6 : w3.cell? ⟨w2.heap.size, 6, none⟩ = some (.slice M ms.length capm) := (blk_cell HX3.out 6).trans rfl
  clear hb3 hB hcb hM2 HA HM
  have ee : (er == er) = true := by simp
  have HAL : Aside0 (alikeV ⟨code, line, col, cnt, tx, ts, ms⟩ ⟨code, line, col, cnt, tx, ts, ms⟩ = true) := ⟨alikeV_refl _⟩
  by_cases h0 : er = 0
  · subst h0
    have HP := Aside0.mk (put_get_rep s code line col cnt tx ts ms HQ.out)
    have es : (s.toList == s.toList) = true := by simp
    go_wp2_with fail
    refine (alike_calls code line col cnt tx A cap ts M capm ms code line col cnt tx B cb ts M2 cm2 ms _ (Kd.C_below HA3.out (by repeat (first | exact Below.refl _ _ | apply below_alloc | apply pw_below_drewN | apply below_drew1))) HCA.out (Kd.C_below HM3.out (by repeat (first | exact Below.refl _ _ | apply below_alloc | apply pw_below_drewN | apply below_drew1))) HMS.out (Kd.C_below HB_.out (by repeat (first | exact Below.refl _ _ | apply below_alloc | apply pw_below_drewN | apply below_drew1))) HCB.out (Kd.C_below HM_.out (by repeat (first | exact Below.refl _ _ | apply below_alloc | apply pw_below_drewN | apply below_drew1))) HMS.out).mono ?_
    rintro e w4 ⟨rfl, hb4⟩
    rw [HAL.out]
    have HX4 := Aside0.mk ((hb4.block w2.heap.size (by simp; omega)).trans ((below_alloc (Below.refl w3.heap.size w3) _).block w2.heap.size hlt |>.trans HX3.out))
    have HB4 := Aside0.mk (below_then (below_alloc HB3.out _) (Nat.le_of_lt_succ (by have := HB3.out.size; simp; omega)) hb4)
    have HA4 := Aside0.mk (Kd.C_below HA3.out ((below_alloc (Below.refl w3.heap.size w3) _).trans (hb4.mono (by simp))))
    have HM4 := Aside0.mk (Kd.C_below HM3.out ((below_alloc (Below.refl w3.heap.size w3) _).trans (hb4.mono (by simp))))
    clear hb4
    have zd0 : w4.cell? ⟨w2.heap.size, 0, none⟩ = some (.int .i64 code) := (blk_cell HX4.out 0).trans rfl
    have zd1 : w4.cell? ⟨w2.heap.size, 1, none⟩ = some (.int .i64 line) := (blk_cell HX4.out 1).trans rfl
    have zd2 : w4.cell? ⟨w2.heap.size, 2, none⟩ = some (.int .i64 col) := (blk_cell HX4.out 2).trans rfl
    have zd3 : w4.cell? ⟨w2.heap.size, 3, none⟩ = some (.int .i64 cnt) := (blk_cell HX4.out 3).trans rfl
    have zd4 : w4.cell? ⟨w2.heap.size, 4, none⟩ = some (.string tx) := (blk_cell HX4.out 4).trans rfl
    have zd5 : w4.cell? ⟨w2.heap.size, 5, none⟩ = some (.slice A ts.length cap) := (blk_cell HX4.out 5).trans rfl
    have zd6 : w4.cell? ⟨w2.heap.size, 6, none⟩ = some (.slice M ms.length capm) := (blk_cell HX4.out 6).trans rfl
    go_wp2_with fail
    refine (putReply_calls code line col cnt tx A cap ts M capm ms _ HA4.out HM4.out HMS.out).mono ?_
    rintro e w5 ⟨rfl, hb5⟩
    rw [HP.out]
    have HB5 := Aside0.mk (below_then HB4.out HB4.out.size hb5)
    clear hb5
    go_wp2
    go_ret
    exact ⟨rfl, HB5.out⟩
  · have h1 : (er != 0) = true := by rw [bne_iff_ne]; exact h0
    have h2 : (er == 0) = false := by rw [beq_eq_false_iff_ne]; exact h0
    go_wp2_with fail
    refine (alike_calls code line col cnt tx A cap ts M capm ms code line col cnt tx B cb ts M2 cm2 ms _ (Kd.C_below HA3.out (by repeat (first | exact Below.refl _ _ | apply below_alloc | apply pw_below_drewN | apply below_drew1))) HCA.out (Kd.C_below HM3.out (by repeat (first | exact Below.refl _ _ | apply below_alloc | apply pw_below_drewN | apply below_drew1))) HMS.out (Kd.C_below HB_.out (by repeat (first | exact Below.refl _ _ | apply below_alloc | apply pw_below_drewN | apply below_drew1))) HCB.out (Kd.C_below HM_.out (by repeat (first | exact Below.refl _ _ | apply below_alloc | apply pw_below_drewN | apply below_drew1))) HMS.out).mono ?_
    rintro e w4 ⟨rfl, hb4⟩
    rw [HAL.out]
    have HB4 := Aside0.mk (below_then (below_alloc HB3.out _) (Nat.le_of_lt_succ (by have := HB3.out.size; simp; omega)) hb4)
    clear hb4
    go_wp2
    go_ret
    exact ⟨rfl, HB4.out⟩
end Go.Proofs.Ytnajmemcdipknaa.PK
