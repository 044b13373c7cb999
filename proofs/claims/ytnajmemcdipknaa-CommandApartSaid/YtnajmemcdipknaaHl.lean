/- primerlaw21.speaks by hand: it answers yes. Condition: none.
primerlaw21.large, the walk. Condition: none.
primerlaw21.same, the walk. Condition: none.
CommandGets, the walk. Condition: the bytes take no more than 2^47.
A raw command as an argument: what its cells say. Condition: none. -/
import Derived.Test.YtnajmemcdipknaaHk
import Derived.Test.YtnajmemcdipknaaHi
import Derived.Test.YtnajmemcdipknaaHj
import Derived.Test.YtnajmemcdipknaaHg
namespace Go.Proofs.Ytnajmemcdipknaa.PK
open Go.RowKit Go.Proofs.YtnajmemcdipknaaW.PrintWords Go.Proofs.YtnajmemcdipknaaW.PrintLast Go.Proofs.YtnajmemcdipknaaW.PrintMore
open Go.ChangeShapes Go.WideShapes
set_option linter.unusedVariables false
set_option linter.unusedSimpArgs false
set_option maxRecDepth 100000
theorem undo_good : goodC 11 ⟨#[97]⟩ ⟨#[]⟩ ⟨#[]⟩ ⟨#[]⟩ [] 0 0 0 0 = true := by decide +kernel
theorem undo_put : putC 11 ⟨#[97]⟩ ⟨#[]⟩ ⟨#[]⟩ ⟨#[]⟩ [] 0 0 0 0 = ⟨#[1, 11, 1, 1, 97, 0, 0, 0, 0, 0, 0, 0, 0]⟩ := by decide +kernel
theorem undo_get : getC ⟨#[1, 11, 1, 1, 97, 0, 0, 0, 0, 0, 0, 0, 0]⟩ = (⟨11, ⟨#[97]⟩, ⟨#[]⟩, ⟨#[]⟩, ⟨#[]⟩, [], 0, 0, 0, 0⟩, 0) := by
  rw [← undo_put]
  exact get_put_cmd _ _ _ _ _ _ _ _ _ _ undo_good
set_option maxHeartbeats 1600000 in
theorem speaks21_calls (w : World) : Calls Try.prog 12 #[] w fun e w' => e = .returned (.bool true) ∧ Below w.heap.size w w' := by
  have hu := Try.underlying28
  go_enter Try.func12, Try.ntmps12
  go_wp2_with fail
  refine (cPut_calls 11 ⟨#[97]⟩ ⟨#[]⟩ ⟨#[]⟩ ⟨#[]⟩ none 0 [] 0 0 0 0 w (by decide) (by decide) (by decide) ⟨rfl, by decide, fun h => absurd h (by decide)⟩ (by decide)).mono ?_
  rintro e w1 ⟨rfl, hb1⟩
  rw [undo_put]
  have HB1 := Aside0.mk hb1
  clear hb1
  go_wp2_with fail
  refine (cGet_calls ⟨#[1, 11, 1, 1, 97, 0, 0, 0, 0, 0, 0, 0, 0]⟩ w1).mono ?_
  rintro e w2 ⟨A, cap, rfl, _, _, hb2⟩
  rw [undo_get]
  have HB2 := Aside0.mk (below_then HB1.out HB1.out.size hb2)
  clear hb2
  unfold cellsV
  go_wp2
  go_ret
  exact ⟨rfl, by repeat (first | (with_reducible first | exact HB2.out | apply below_alloc | apply pw_below_drewN | apply below_drew1) | exact HB2.out)⟩
end Go.Proofs.Ytnajmemcdipknaa.PK
namespace Go.Proofs.Ytnajmemcdipknaa.PK
open Go.RowKit Go.Proofs.YtnajmemcdipknaaW.PrintWords Go.Proofs.YtnajmemcdipknaaW.PrintLast Go.Proofs.YtnajmemcdipknaaW.PrintMore
open Go.ChangeShapes Go.WideShapes
set_option linter.unusedVariables false
set_option linter.unusedSimpArgs false
set_option maxRecDepth 100000
def large21 (who nm ot tx : ByteArray) (wd : List ByteArray) : Bool := decide (200 < who.size) || decide (200 < nm.size) || decide (200 < ot.size) || decide (3000 < tx.size) || decide (80 < wd.length) || wd.any fun s => decide (100 < s.size)
set_option maxHeartbeats 6400000 in
theorem large21_calls (k : Int) (who nm ot tx : ByteArray) (A : Option Addr) (cap : Nat) (wd : List ByteArray) (a b c d : Int) (w : World) (hr : Kd.C Kd.string w A wd.length wd) (hc : wd.length ≤ cap) :
    Calls Try.prog 13 #[.agg #[.int .i64 k, .string who, .string nm, .string ot, .string tx, .slice A wd.length cap, .int .i64 a, .int .i64 b, .int .i64 c, .int .i64 d]] w fun e w' => e = .returned (.bool (large21 who nm ot tx wd)) ∧ Below w.heap.size w w' := by
  have hu := Try.underlying25
  have HR := Aside0.mk hr
  have HC := Aside0.mk hc
  clear hr hc
  have HB1 := Aside0.mk (below_alloc (Below.refl w.heap.size w) (.cells #[.int .i64 k, .string who, .string nm, .string ot, .string tx, .slice A wd.length cap, .int .i64 a, .int .i64 b, .int .i64 c, .int .i64 d] 25))
  have HX1 := Aside0.mk (heap_alloc_new w (.cells #[.int .i64 k, .string who, .string nm, .string ot, .string tx, .slice A wd.length cap, .int .i64 a, .int .i64 b, .int .i64 c, .int .i64 d] 25))
  by_cases g0 : 200 < who.size
  · have e1 : decide ((200 : Int) < (who.size : Int)) = true := by simp; omega
    have e2 : decide (200 < who.size) = true := by simp; omega
    have HL : Aside0 (large21 who nm ot tx wd = true) := ⟨by simp [large21, g0]⟩
    clear g0
    go_enter Try.func13, Try.ntmps13
    go_wp2
    go_ret
    exact ⟨by rw [HL.out]; rfl, HB1.out⟩
  have p0 : decide ((200 : Int) < (who.size : Int)) = false := by simp; omega
  have q0 : decide (200 < who.size) = false := by simp; omega
  by_cases g1 : 200 < nm.size
  · have e1 : decide ((200 : Int) < (nm.size : Int)) = true := by simp; omega
    have e2 : decide (200 < nm.size) = true := by simp; omega
    have HL : Aside0 (large21 who nm ot tx wd = true) := ⟨by simp [large21, g1]⟩
    clear g1
    go_enter Try.func13, Try.ntmps13
    go_wp2
    go_ret
    exact ⟨by rw [HL.out]; rfl, HB1.out⟩
  have p1 : decide ((200 : Int) < (nm.size : Int)) = false := by simp; omega
  have q1 : decide (200 < nm.size) = false := by simp; omega
  by_cases g2 : 200 < ot.size
  · have e1 : decide ((200 : Int) < (ot.size : Int)) = true := by simp; omega
    have e2 : decide (200 < ot.size) = true := by simp; omega
    have HL : Aside0 (large21 who nm ot tx wd = true) := ⟨by simp [large21, g2]⟩
    clear g2
    go_enter Try.func13, Try.ntmps13
    go_wp2
    go_ret
    exact ⟨by rw [HL.out]; rfl, HB1.out⟩
  have p2 : decide ((200 : Int) < (ot.size : Int)) = false := by simp; omega
  have q2 : decide (200 < ot.size) = false := by simp; omega
  by_cases g3 : 3000 < tx.size
  · have e1 : decide ((3000 : Int) < (tx.size : Int)) = true := by simp; omega
    have e2 : decide (3000 < tx.size) = true := by simp; omega
    have HL : Aside0 (large21 who nm ot tx wd = true) := ⟨by simp [large21, g3]⟩
    clear g3
    go_enter Try.func13, Try.ntmps13
    go_wp2
    go_ret
    exact ⟨by rw [HL.out]; rfl, HB1.out⟩
  have p3 : decide ((3000 : Int) < (tx.size : Int)) = false := by simp; omega
  have q3 : decide (3000 < tx.size) = false := by simp; omega
  by_cases g4 : 80 < wd.length
  · have e1 : decide ((80 : Int) < (wd.length : Int)) = true := by simp; omega
    have e2 : decide (80 < wd.length) = true := by simp; omega
    have HL : Aside0 (large21 who nm ot tx wd = true) := ⟨by simp [large21, g4]⟩
    clear g4
    go_enter Try.func13, Try.ntmps13
    go_wp2
    go_ret
    exact ⟨by rw [HL.out]; rfl, HB1.out⟩
  have p4 : decide ((80 : Int) < (wd.length : Int)) = false := by simp; omega
  have q4 : decide (80 < wd.length) = false := by simp; omega
  have HL : Aside0 (large21 who nm ot tx wd = wd.any fun s => decide (100 < s.size)) := ⟨by unfold large21; rw [q0, q1, q2, q3, q4]; rfl⟩
  clear g0 g1 g2 g3 g4
  go_enter Try.func13, Try.ntmps13
  go_wp2_with fail
  go_loopw [3] (fun i wr => ∃ j : Nat, j ≤ wd.length ∧ i = .int .i64 j ∧ Aside0 ((wd.any fun s => decide (100 < s.size)) = ((wd.drop j).any fun s => decide (100 < s.size))) ∧ Aside0 (Below w.heap.size w wr) ∧ Aside0 (wr.heap[w.heap.size]? = some (.cells #[.int .i64 k, .string who, .string nm, .string ot, .string tx, .slice A wd.length cap, .int .i64 a, .int .i64 b, .int .i64 c, .int .i64 d] 25))) (fun i _ => wd.length - (intOf i).toNat)
  case atStart => exact ⟨0, Nat.zero_le _, rfl, ⟨rfl⟩, HB1, HX1⟩
  case round =>
    obtain ⟨j, hj, rfl, HANY, HB2, HX⟩ := hrel
    clear HB1 HX1
    have hz5 := (blk_cell HX.out 5).trans (show _ = some (.slice A wd.length cap) from rfl)
    have hmx := HR.out.2.1
    by_cases hjn : j < wd.length
    · obtain ⟨ad, rfl, hcell⟩ := C_str (Kd.C_below HR.out HB2.out) j hjn
      have hd : decide ((j : Int) < (wd.length : Int)) = true := by simp; omega
      obtain ⟨x, hx⟩ : ∃ x, wd[j] = x := ⟨_, rfl⟩
      have hs : ((wd.drop j).any fun s => decide (100 < s.size)) = (decide (100 < x.size) || (wd.drop (j + 1)).any fun s => decide (100 < s.size)) := by rw [List.drop_eq_getElem_cons hjn, List.any_cons, hx]
      rw [hx] at hcell
      have HS := Aside0.mk hs
      clear hs hx
      by_cases hbig : 100 < x.size
      · have hb1 : decide ((100 : Int) < (x.size : Int)) = true := by simp; omega
        have hb2 : decide (100 < x.size) = true := by simp; omega
        have HQ := Aside0.mk hb2
        go_wp2
        go_ret
        exact ⟨by rw [HL.out, HANY.out, HS.out, HQ.out]; simp, HB2.out⟩
      · have hb1 : decide ((100 : Int) < (x.size : Int)) = false := by simp; omega
        have hb2 : decide (100 < x.size) = false := by simp; omega
        have HQ := Aside0.mk hb2
        go_wp2_with fail
        go_roundw
        case rel => exact ⟨j + 1, by omega, by go_num, ⟨by rw [HANY.out, HS.out, HQ.out]; rfl⟩, HB2, HX⟩
        case measure => simp [intOf]; omega
    · obtain rfl : wd.length = j := by omega
      have hd : decide ((wd.length : Int) < (wd.length : Int)) = false := by simp
      have hany : (wd.any fun s => decide (100 < s.size)) = false := by rw [HANY.out, List.drop_length]; rfl
      have HF := Aside0.mk hany
      clear hany HANY
      go_wp2
      go_ret
      exact ⟨by rw [HL.out, HF.out]; rfl, HB2.out⟩
end Go.Proofs.Ytnajmemcdipknaa.PK
namespace Go.Proofs.Ytnajmemcdipknaa.PK
open Go.RowKit Go.Proofs.YtnajmemcdipknaaW.PrintWords Go.Proofs.YtnajmemcdipknaaW.PrintLast Go.Proofs.YtnajmemcdipknaaW.PrintMore
open Go.ChangeShapes Go.WideShapes
set_option linter.unusedVariables false
set_option linter.unusedSimpArgs false
set_option maxRecDepth 100000
theorem rdOf_get (xs : List ByteArray) (i : Nat) (h : i < xs.length) : rdOf ByteArray.empty xs (i : Int) = xs[i] := by
  unfold rdOf
  rw [Int.toNat_natCast, List.getD_eq_getElem?_getD, List.getElem?_eq_getElem h]
  rfl
theorem texts21_l0 (xs ys : List ByteArray) (hl : xs.length = ys.length) (hb : xs.length ≤ 9223372036854775807) (r : Nat) : ∀ (k i : Nat), i + r = xs.length → r < k → PC.primerlaw21_texts.l0 k xs ys i = some (decide (xs.drop i = ys.drop i)) := by
  induction r with
  | zero =>
    intro k i h1 hk
    obtain ⟨k, rfl⟩ : ∃ j, k = j + 1 := ⟨k - 1, by omega⟩
    simp only [PC.primerlaw21_texts.l0]
    rw [if_neg (by omega), List.drop_of_length_le (by omega), List.drop_of_length_le (by omega)]
    simp
  | succ r ih =>
    intro k i h1 hk
    obtain ⟨k, rfl⟩ : ∃ j, k = j + 1 := ⟨k - 1, by omega⟩
    simp only [PC.primerlaw21_texts.l0]
    rw [if_pos (by omega), if_pos (by omega), if_pos (by omega), rdOf_get xs i (by omega), rdOf_get ys i (by omega), w64 _ (by omega) (by omega), List.drop_eq_getElem_cons (show i < xs.length by omega), List.drop_eq_getElem_cons (show i < ys.length by omega)]
    by_cases h : xs[i]'(by omega) = ys[i]'(by omega)
    · rw [if_pos ((toList_iff _ _).mpr h), show ((i : Int) + 1) = ((i + 1 : Nat) : Int) from rfl, ih k (i + 1) (by omega) (by omega), h, Option.some.injEq, decide_eq_decide, List.cons.injEq, eq_self_iff_true, true_and]
    · rw [if_neg (fun e => h ((toList_iff _ _).mp e)), Option.some.injEq, eq_comm, decide_eq_false_iff_not]
      exact fun e => h (List.cons.inj e).1
theorem texts21_eq (xs ys : List ByteArray) (hb : xs.length ≤ 9223372036854775807) (k : Nat) (hk : xs.length < k) : PC.primerlaw21_texts.f k xs ys = some (decide (xs = ys)) := by
  unfold PC.primerlaw21_texts.f
  by_cases hl : xs.length = ys.length
  · rw [if_pos (by omega)]
    have := texts21_l0 xs ys hl hb xs.length k 0 (by omega) hk
    rw [show ((0 : Nat) : Int) = 0 from rfl, List.drop_zero, List.drop_zero] at this
    exact this
  · rw [if_neg (by omega)]
    have : ¬ xs = ys := fun h => hl (by rw [h])
    simp [this]
theorem part4 (a b c d : Int) (w : World) : (part 3 #[.int .i64 a, .int .i64 b, .int .i64 c, .int .i64 d] 0).run Try.prog w = .ok (.int .i64 a) w ∧ (part 3 #[.int .i64 a, .int .i64 b, .int .i64 c, .int .i64 d] 1).run Try.prog w = .ok (.int .i64 b) w ∧ (part 3 #[.int .i64 a, .int .i64 b, .int .i64 c, .int .i64 d] 2).run Try.prog w = .ok (.int .i64 c) w ∧ (part 3 #[.int .i64 a, .int .i64 b, .int .i64 c, .int .i64 d] 3).run Try.prog w = .ok (.int .i64 d) w :=
  ⟨by kernel_rfl, by kernel_rfl, by kernel_rfl, by kernel_rfl⟩
theorem size_int (w : World) : (sizeOf 3).run Try.prog w = .ok 1 w := by kernel_rfl
theorem eq4 (n : Nat) (a b c d a2 b2 c2 d2 : Int) (w : World) : (Op.equalIn (n + 2) 23 (.agg #[.int .i64 a, .int .i64 b, .int .i64 c, .int .i64 d]) (.agg #[.int .i64 a2, .int .i64 b2, .int .i64 c2, .int .i64 d2])).run Try.prog w = .ok (a == a2 && b == b2 && c == c2 && d == d2) w := by
  obtain ⟨p0, p1, p2, p3⟩ := part4 a b c d w
  obtain ⟨q0, q1, q2, q3⟩ := part4 a2 b2 c2 d2 w
  have hu := run_underlying (P := Try.prog) Try.underlying23
  have hi := fun x y w => run_equalIn_int (P := Try.prog) w n 3 .i64 .i64 x y Try.underlying3
  rw [Op.equalIn]
  simp only [Sem.run_bind, hu, Result.andThen_ok, size_int, Std.Legacy.Range.forIn_eq_forIn_range', Std.Legacy.Range.size]
  cases h0 : a == a2 <;> cases h1 : b == b2 <;> cases h2 : c == c2 <;> cases h3 : d == d2 <;> simp [List.range', p0, p1, p2, p3, q0, q1, q2, q3, hi, h0, h1, h2, h3]
def sameV (x y : CmdV) : Bool := (x.k == y.k) && decide (x.who.toList = y.who.toList) && decide (x.nm.toList = y.nm.toList) && decide (x.ot.toList = y.ot.toList) && decide (x.tx.toList = y.tx.toList) && decide (x.wd = y.wd) && (x.a == y.a) && (x.b == y.b) && (x.c == y.c) && (x.d == y.d)
theorem sameV_iff (x y : CmdV) : sameV x y = true ↔ x = y := by
  cases x; cases y
  simp [sameV, toList_iff, and_assoc]
set_option maxHeartbeats 6400000 in
theorem same21_calls (x y : CmdV) (A B : Option Addr) (ca cb : Nat) (w : World) (hA : Kd.C Kd.string w A x.wd.length x.wd) (hca : x.wd.length ≤ ca) (hB : Kd.C Kd.string w B y.wd.length y.wd) (hcb : y.wd.length ≤ cb) :
    Calls Try.prog 19 #[.agg (cellsV x A ca), .agg (cellsV y B cb)] w fun e w' => e = .returned (.bool (sameV x y)) ∧ Below w.heap.size w w' := by
  have hu := Try.underlying28
  obtain ⟨k, who, nm, ot, tx, wd, a, b, c, d⟩ := x
  obtain ⟨k2, who2, nm2, ot2, tx2, wd2, a2, b2, c2, d2⟩ := y
  simp only at hA hca hB hcb
  have hm := hA.2.1
  have HM := Aside0.mk hm
  have HA := Aside0.mk hA
  have HCA := Aside0.mk hca
  have HB := Aside0.mk hB
  have HCB := Aside0.mk hcb
  clear hm hA hca hB hcb
  unfold cellsV
  have HW := Aside0.mk (below_alloc (below_alloc (Below.refl w.heap.size w) (.cells #[.int .i64 k, .string who, .string nm, .string ot, .string tx, .slice A wd.length ca, .int .i64 a, .int .i64 b, .int .i64 c, .int .i64 d] 28)) (.cells #[.int .i64 k2, .string who2, .string nm2, .string ot2, .string tx2, .slice B wd2.length cb, .int .i64 a2, .int .i64 b2, .int .i64 c2, .int .i64 d2] 29))
  obtain ⟨v, hv⟩ : ∃ v, sameV ⟨k, who, nm, ot, tx, wd, a, b, c, d⟩ ⟨k2, who2, nm2, ot2, tx2, wd2, a2, b2, c2, d2⟩ = v := ⟨_, rfl⟩
  have HV := Aside0.mk hv
  rw [hv]
  clear hv
  by_cases g0 : k = k2
  rotate_left
  · have e0 : (k == k2) = false := by rw [beq_eq_false_iff_ne]; exact g0
    go_enter Try.func19, Try.ntmps19
    go_wp2
    go_ret
    exact ⟨by rw [← HV.out]; simp [sameV, g0], HW.out⟩
  subst g0
  by_cases g5 : wd = wd2
  · subst g5
    have HT : Aside0 (PC.primerlaw21_texts.f (wd.length + 1) wd wd = some true) := ⟨by rw [texts21_eq wd wd HM.out _ (by omega)]; simp⟩
    obtain ⟨n4, hn4⟩ : ∃ n4, (a == a2 && b == b2 && c == c2 && d == d2) = n4 := ⟨_, rfl⟩
    have h4 : ∀ w, (Op.equalIn 10000 23 (.agg #[.int .i64 a, .int .i64 b, .int .i64 c, .int .i64 d]) (.agg #[.int .i64 a2, .int .i64 b2, .int .i64 c2, .int .i64 d2])).run Try.prog w = .ok n4 w := fun w => by rw [← hn4]; exact eq4 9998 a b c d a2 b2 c2 d2 w
    have hg4 : Try.prog.eqGuardType Try.prog.depth 23 = false := by kernel_rfl
    have HN := Aside0.mk hn4
    clear hn4
    go_enter Try.func19, Try.ntmps19
    go_wp2_with (go_at_call 58; (with_reducible refine (PC.primerlaw21_texts.calls _ A ca wd B cb wd true _ (Kd.C_below HA.out HW.out) HCA.out (Kd.C_below HB.out HW.out) HCB.out HT.out).mono ?_); rintro e w' ⟨rfl, ⟨nd, rfl⟩⟩)
    all_goals
      go_ret
      exact ⟨by rw [← HV.out]; simp [sameV, ← HN.out, Bool.and_assoc, *], by first | exact HW.out | exact pw_below_drewN HW.out _⟩
  · have HT : Aside0 (PC.primerlaw21_texts.f (wd.length + 1) wd wd2 = some false) := ⟨by rw [texts21_eq wd wd2 HM.out _ (by omega)]; simp [g5]⟩
    have G5 := Aside0.mk g5
    clear g5
    go_enter Try.func19, Try.ntmps19
    go_wp2_with (go_at_call 58; (with_reducible refine (PC.primerlaw21_texts.calls _ A ca wd B cb wd2 false _ (Kd.C_below HA.out HW.out) HCA.out (Kd.C_below HB.out HW.out) HCB.out HT.out).mono ?_); rintro e w' ⟨rfl, ⟨nd, rfl⟩⟩)
    all_goals
      go_ret
      exact ⟨by rw [← HV.out]; simp [sameV, G5.out, *], by first | exact HW.out | exact pw_below_drewN HW.out _⟩
end Go.Proofs.Ytnajmemcdipknaa.PK
namespace Go.Proofs.Ytnajmemcdipknaa.PK
open Go.RowKit Go.Proofs.YtnajmemcdipknaaW.PrintWords Go.Proofs.YtnajmemcdipknaaW.PrintLast Go.Proofs.YtnajmemcdipknaaW.PrintMore
open Go.ChangeShapes Go.WideShapes
set_option linter.unusedVariables false
set_option linter.unusedSimpArgs false
set_option maxRecDepth 100000
section
variable (k : Int) (who nm ot tx : ByteArray) (wd : List ByteArray) (a b c d : Int)
/-- What a reader of a command tells, field by field. -/
def ToldF (er : Int) (w : World) (e : Ending) (w' : World) : Prop :=
  ∃ A cap, e = .returned (.tuple #[.agg #[.int .i64 k, .string who, .string nm, .string ot, .string tx, .slice A wd.length cap, .int .i64 a, .int .i64 b, .int .i64 c, .int .i64 d], .int .i64 er]) ∧ Kd.C Kd.string w' A wd.length wd ∧ wd.length ≤ cap ∧ Below w.heap.size w w'
theorem cGet_told (s : ByteArray) (er : Int) (h : getC s = (⟨k, who, nm, ot, tx, wd, a, b, c, d⟩, er)) (w : World) : Calls Try.prog 18 #[.string s] w (ToldF k who nm ot tx wd a b c d er w) :=
  (cGet_calls s w).mono fun e w' ht => by unfold Told at ht; rw [h] at ht; exact ht
theorem rGet_told (s : ByteArray) (hs : s.size ≤ 140737488355328) (er : Int) (h : getC s = (⟨k, who, nm, ot, tx, wd, a, b, c, d⟩, er)) (w : World) : Calls Try.prog 20 #[.string s] w (ToldF k who nm ot tx wd a b c d er w) :=
  (rGet_calls s hs w).mono fun e w' ht => by unfold Told at ht; rw [h] at ht; exact ht
theorem same21_refl (A B : Option Addr) (ca cb : Nat) (w : World) (hA : Kd.C Kd.string w A wd.length wd) (hca : wd.length ≤ ca) (hB : Kd.C Kd.string w B wd.length wd) (hcb : wd.length ≤ cb) :
    Calls Try.prog 19 #[.agg #[.int .i64 k, .string who, .string nm, .string ot, .string tx, .slice A wd.length ca, .int .i64 a, .int .i64 b, .int .i64 c, .int .i64 d], .agg #[.int .i64 k, .string who, .string nm, .string ot, .string tx, .slice B wd.length cb, .int .i64 a, .int .i64 b, .int .i64 c, .int .i64 d]] w fun e w' => e = .returned (.bool true) ∧ Below w.heap.size w w' := by
  have h := same21_calls ⟨k, who, nm, ot, tx, wd, a, b, c, d⟩ ⟨k, who, nm, ot, tx, wd, a, b, c, d⟩ A B ca cb w hA hca hB hcb
  rw [(sameV_iff _ _).mpr rfl] at h
  exact h
end
set_option maxHeartbeats 6400000 in
theorem gets21_calls (s : ByteArray) (hs : s.size ≤ 140737488355328) (w : World) : Calls Try.prog 4 #[.string s] w fun e w' => e = .returned (.bool true) ∧ Below w.heap.size w w' := by
  have hu := Try.underlying28
  by_cases h : 3000 < s.size
  · have e1 : decide ((3000 : Int) < (s.size : Int)) = true := by simp; omega
    clear h
    go_enter Try.func4, Try.ntmps4
    go_wp2_with fail
    refine (speaks21_calls _).mono ?_
    rintro e w1 ⟨rfl, hb1⟩
    have HB1 := Aside0.mk hb1
    clear hb1
    go_wp2
    go_ret
    exact ⟨rfl, HB1.out⟩
  have e1 : decide ((3000 : Int) < (s.size : Int)) = false := by simp; omega
  clear h
  have HS := Aside0.mk hs
  clear hs
  obtain ⟨⟨k, who, nm, ot, tx, wd, a, b, c, d⟩, er, hq⟩ : ∃ x er, getC s = (x, er) := ⟨_, _, rfl⟩
  have HQ := Aside0.mk hq
  clear hq
  go_enter Try.func4, Try.ntmps4
  go_wp2_with fail
  refine (speaks21_calls _).mono ?_
  rintro e w1 ⟨rfl, hb1⟩
  have HB1 := Aside0.mk hb1
  clear hb1
  go_wp2_with fail
  refine (cGet_told k who nm ot tx wd a b c d s er HQ.out _).mono ?_
  rintro e w2 ⟨A, ca, rfl, hA, hca, hb2⟩
  have HA := Aside0.mk hA
  have HCA := Aside0.mk hca
  have HB2 := Aside0.mk (below_then HB1.out HB1.out.size hb2)
  clear hA hca hb2
  go_wp2_with fail
  refine (rGet_told k who nm ot tx wd a b c d s HS.out er HQ.out _).mono ?_
  rintro e w3 ⟨B, cb, rfl, hB, hcb, hb3⟩
  have HX3 := Aside0.mk ((hb3.block w2.heap.size (by simp)).trans (heap_alloc_new w2 _))
  have HB3 := Aside0.mk (below_then (below_alloc HB2.out _) (Nat.le_of_lt_succ (by have := HB2.out.size; simp; omega)) hb3)
  have hlt : w2.heap.size < w3.heap.size := blk_lt HX3.out
  have HA3 := Aside0.mk (Kd.C_below HA.out ((below_alloc (Below.refl w2.heap.size w2) _).trans (hb3.mono (by simp))))
  have HB_ := Aside0.mk hB
  have HCB := Aside0.mk hcb
  have zc0 : w3.cell? ⟨w2.heap.size, 0, none⟩ = some (.int .i64 k) := (blk_cell HX3.out 0).trans rfl
  have zc1 : w3.cell? ⟨w2.heap.size, 1, none⟩ = some (.string who) := (blk_cell HX3.out 1).trans rfl
  have zc2 : w3.cell? ⟨w2.heap.size, 2, none⟩ = some (.string nm) := (blk_cell HX3.out 2).trans rfl
  have zc3 : w3.cell? ⟨w2.heap.size, 3, none⟩ = some (.string ot) := (blk_cell HX3.out 3).trans rfl
  have zc4 : w3.cell? ⟨w2.heap.size, 4, none⟩ = some (.string tx) := (blk_cell HX3.out 4).trans rfl
  have zc5 : w3.cell? ⟨w2.heap.size, 5, none⟩ = some (.slice A wd.length ca) := (blk_cell HX3.out 5).trans rfl
  have zc6 : w3.cell? ⟨w2.heap.size, 6, none⟩ = some (.int .i64 a) := (blk_cell HX3.out 6).trans rfl
  have zc7 : w3.cell? ⟨w2.heap.size, 7, none⟩ = some (.int .i64 b) := (blk_cell HX3.out 7).trans rfl
  have zc8 : w3.cell? ⟨w2.heap.size, 8, none⟩ = some (.int .i64 c) := (blk_cell HX3.out 8).trans rfl
  have zc9 : w3.cell? ⟨w2.heap.size, 9, none⟩ = some (.int .i64 d) := (blk_cell HX3.out 9).trans rfl
  clear hb3 hB hcb HA
  have ee : (er == er) = true := by simp
  by_cases h0 : er = 0
  · subst h0
    obtain ⟨hgood, hput⟩ := put_get_cmd s _ HQ.out
    obtain ⟨_, f3, f4, f5, _⟩ := good_facts (show goodC k who nm ot tx wd a b c d = true from hgood)
    have HP := Aside0.mk (show putC k who nm ot tx wd a b c d = s from hput)
    clear hgood hput
    have es : (s.toList == s.toList) = true := by simp
    go_wp2_with fail
    refine (same21_refl k who nm ot tx wd a b c d A B ca cb _ (Kd.C_below HA3.out (by repeat (first | exact Below.refl _ _ | apply below_alloc | apply pw_below_drewN | apply below_drew1))) HCA.out (Kd.C_below HB_.out (by repeat (first | exact Below.refl _ _ | apply below_alloc | apply pw_below_drewN | apply below_drew1))) HCB.out).mono ?_
    rintro e w4 ⟨rfl, hb4⟩
    have HX4 := Aside0.mk ((hb4.block w2.heap.size (by simp; omega)).trans ((below_alloc (Below.refl w3.heap.size w3) _).block w2.heap.size hlt |>.trans HX3.out))
    have HB4 := Aside0.mk (below_then (below_alloc HB3.out _) (Nat.le_of_lt_succ (by have := HB3.out.size; simp; omega)) hb4)
    have HA4 := Aside0.mk (Kd.C_below HA3.out ((below_alloc (Below.refl w3.heap.size w3) _).trans (hb4.mono (by simp))))
    clear hb4
    have zd0 : w4.cell? ⟨w2.heap.size, 0, none⟩ = some (.int .i64 k) := (blk_cell HX4.out 0).trans rfl
    have zd1 : w4.cell? ⟨w2.heap.size, 1, none⟩ = some (.string who) := (blk_cell HX4.out 1).trans rfl
    have zd2 : w4.cell? ⟨w2.heap.size, 2, none⟩ = some (.string nm) := (blk_cell HX4.out 2).trans rfl
    have zd3 : w4.cell? ⟨w2.heap.size, 3, none⟩ = some (.string ot) := (blk_cell HX4.out 3).trans rfl
    have zd4 : w4.cell? ⟨w2.heap.size, 4, none⟩ = some (.string tx) := (blk_cell HX4.out 4).trans rfl
    have zd5 : w4.cell? ⟨w2.heap.size, 5, none⟩ = some (.slice A wd.length ca) := (blk_cell HX4.out 5).trans rfl
    have zd6 : w4.cell? ⟨w2.heap.size, 6, none⟩ = some (.int .i64 a) := (blk_cell HX4.out 6).trans rfl
    have zd7 : w4.cell? ⟨w2.heap.size, 7, none⟩ = some (.int .i64 b) := (blk_cell HX4.out 7).trans rfl
    have zd8 : w4.cell? ⟨w2.heap.size, 8, none⟩ = some (.int .i64 c) := (blk_cell HX4.out 8).trans rfl
    have zd9 : w4.cell? ⟨w2.heap.size, 9, none⟩ = some (.int .i64 d) := (blk_cell HX4.out 9).trans rfl
    go_wp2_with fail
    refine (cPut_calls k who nm ot tx A ca wd a b c d _ (by omega) (by omega) (by omega) HA4.out HCA.out).mono ?_
    rintro e w5 ⟨rfl, hb5⟩
    rw [HP.out]
    have HB5 := Aside0.mk (below_then HB4.out HB4.out.size hb5)
    clear hb5
    go_wp2
    go_ret
    exact ⟨rfl, HB5.out⟩
  · have h1 : (er != 0) = true := by rw [bne_iff_ne]; exact h0
    have h2 : (er == 0) = false := by rw [beq_eq_false_iff_ne]; exact h0
    go_wp2_with fail
    refine (same21_refl k who nm ot tx wd a b c d A B ca cb _ (Kd.C_below HA3.out (by repeat (first | exact Below.refl _ _ | apply below_alloc | apply pw_below_drewN | apply below_drew1))) HCA.out (Kd.C_below HB_.out (by repeat (first | exact Below.refl _ _ | apply below_alloc | apply pw_below_drewN | apply below_drew1))) HCB.out).mono ?_
    rintro e w4 ⟨rfl, hb4⟩
    have HB4 := Aside0.mk (below_then (below_alloc HB3.out _) (Nat.le_of_lt_succ (by have := HB3.out.size; simp; omega)) hb4)
    clear hb4
    go_wp2
    go_ret
    exact ⟨rfl, HB4.out⟩
end Go.Proofs.Ytnajmemcdipknaa.PK
namespace Go.Proofs.Ytnajmemcdipknaa.PK
open Go.RowKit Go.Proofs.YtnajmemcdipknaaW.PrintWords Go.Proofs.YtnajmemcdipknaaW.PrintLast Go.Proofs.YtnajmemcdipknaaW.PrintMore
open Go.ChangeShapes Go.WideShapes
set_option linter.unusedVariables false
set_option linter.unusedSimpArgs false
set_option maxRecDepth 100000
def kRaw : Kd (Int × ByteArray × ByteArray × ByteArray × ByteArray × List ByteArray × List Int) := Kd.pair (Kd.int .i64) (Kd.pair Kd.string (Kd.pair Kd.string (Kd.pair Kd.string (Kd.pair Kd.string (Kd.pair (Kd.slice 9 Kd.string) (kArr .i64 4))))))
theorem opens_raw (W : World) : Opens Try.prog W 25 kRaw (fun y => (Lit.int .i64 y.1).wf = true ∧ y.2.1.size ≤ 9223372036854775807 ∧ y.2.2.1.size ≤ 9223372036854775807 ∧ y.2.2.2.1.size ≤ 9223372036854775807 ∧ y.2.2.2.2.1.size ≤ 9223372036854775807 ∧ (y.2.2.2.2.2.1.length ≤ 9223372036854775807 ∧ ∀ x ∈ y.2.2.2.2.2.1, x.size ≤ 9223372036854775807) ∧ ∀ x ∈ y.2.2.2.2.2.2, (Lit.int .i64 x).wf = true) :=
  opens_struct Try.underlying25 (opensF_more (f := ⟨"Kind", 3, 0, false, "", "", 0⟩) rfl rfl (opens_int Try.underlying3)
    (opensF_more (f := ⟨"Who", 9, 1, false, "", "", 8⟩) rfl (by kernel_rfl) (opens_string Try.underlying9)
    (opensF_more (f := ⟨"Name", 9, 2, false, "", "", 24⟩) rfl (by kernel_rfl) (opens_string Try.underlying9)
    (opensF_more (f := ⟨"Other", 9, 3, false, "", "", 40⟩) rfl (by kernel_rfl) (opens_string Try.underlying9)
    (opensF_more (f := ⟨"Text", 9, 4, false, "", "", 56⟩) rfl (by kernel_rfl) (opens_string Try.underlying9)
    (opensF_more (f := ⟨"Word", 22, 5, false, "", "", 72⟩) rfl (by kernel_rfl) (opens_slice Try.underlying22 (by kernel_rfl) (opens_string Try.underlying9))
    (opensF_last (f := ⟨"Nums", 23, 6, false, "", "", 96⟩) rfl (by kernel_rfl) (opens_arr Try.underlying23 Try.underlying3 (by kernel_rfl) (by kernel_rfl)) (by kernel_rfl))))))))
def I64 (n : Int) : Prop := -9223372036854775808 ≤ n ∧ n ≤ 9223372036854775807
theorem four_of {l : List Int} (h : l.length = 4) : ∃ a b c d, l = [a, b, c, d] := by
  match l, h with
  | [a, b, c, d], _ => exact ⟨a, b, c, d, rfl⟩
theorem arg_raw {H : Type} {enc : TypeId × Value → H} {W : World} {base : Nat} {spare : Nat → Bool} {held : Bool} {cs : Array Value} {dt : DataW H} {ps : List MemPlace}
    (h : DataW.Trod enc Try.prog W base spare held 25 (.agg cs) dt ps) : ∃ k who nm ot tx A cap wd a b c d, cs = #[.int .i64 k, .string who, .string nm, .string ot, .string tx, .slice A (wd : List ByteArray).length cap, .int .i64 a, .int .i64 b, .int .i64 c, .int .i64 d] ∧
    Kd.C Kd.string W A wd.length wd ∧ wd.length ≤ cap ∧ (who.size ≤ 9223372036854775807 ∧ nm.size ≤ 9223372036854775807 ∧ ot.size ≤ 9223372036854775807) ∧ I64 k ∧ I64 a ∧ I64 b ∧ I64 c ∧ I64 d := by
  obtain ⟨⟨k, who, nm, ot, tx, wd, ns⟩, hy, hw⟩ := arg_struct (opens_raw W) h
  obtain ⟨q0, r0, h0', h0, q1, r1, rfl, h1, q2, r2, rfl, h2, q3, r3, rfl, h3, q4, r4, rfl, h4, q5, r5, rfl, ⟨A5, c5, h5, l5, k5⟩, h6, h7⟩ := hy
  have h0 : q0 = [.int .i64 k] := h0
  have h1 : q1 = [.string who] := h1
  have h2 : q2 = [.string nm] := h2
  have h3 : q3 = [.string ot] := h3
  have h4 : q4 = [.string tx] := h4
  obtain ⟨a, b, c, d, hns⟩ := four_of h6
  have hns : ns = [a, b, c, d] := hns
  subst hns
  have h7 : r5 = nums .i64 [a, b, c, d] := h7
  subst h0; subst h1; subst h2; subst h3; subst h4; subst h5; subst h7
  obtain ⟨w0, w1, w2, w3, w4, _, w6⟩ := hw
  refine ⟨k, who, nm, ot, tx, A5, c5, wd, a, b, c, d, by rw [← Array.toList_inj, h0']; rfl, k5, l5, ⟨w1, w2, w3⟩, i64_wf w0, i64_wf (w6 a (by simp)), i64_wf (w6 b (by simp)), i64_wf (w6 c (by simp)), i64_wf (w6 d (by simp))⟩
end Go.Proofs.Ytnajmemcdipknaa.PK
