/- command.Same, the walk; slices.EqualFunc over marks. Condition: the marks are words of 64 bits.
The document's Get for a command, the walk: it tells getC. Condition: no more than 2^47 bytes.
The document's GetReply, the walk. Condition: the bytes take no more than 2^47.
Commands, the plain law: what a good command writes is read again. Condition: none.
Commands, the plain law's converse: what is read without an error is what the read command writes. Condition: none.
primerlaw21.speaks by hand: it answers yes. Condition: none.
CommandAnswers, the plain law and the walk. Condition: the bytes take no more than 2^47.
The document's PutReply, the walk. Conditions: a reply that is not too large; its numbers and marks are words of 64 bits.
primerlaw21.replies, words for the walk. Condition: none. -/
import Derived.Test.YtnajmemcdipknaaLg
import Derived.Test.YtnajmemcdipknaaLe
import Derived.Test.YtnajmemcdipknaaLf
namespace Go.Proofs.Ytnajmemcdipknaa.PK
open Go.RowKit Go.Proofs.YtnajmemcdipknaaW.PrintWords Go.Proofs.YtnajmemcdipknaaW.PrintLast Go.Proofs.YtnajmemcdipknaaW.PrintMore
open Go.ChangeShapes Go.WideShapes
set_option linter.unusedVariables false
set_option linter.unusedSimpArgs false
set_option maxRecDepth 100000
theorem equal_l0 (xs ys : List ByteArray) (hl : xs.length = ys.length) (hb : xs.length ≤ 9223372036854775807) (r : Nat) : ∀ (k i : Nat), i + r = xs.length → r < k → PC.slices_Equal_string_string.l0 k xs ys xs.length i = some (decide (xs.drop i = ys.drop i)) := by
  induction r with
  | zero =>
    intro k i h1 hk
    obtain ⟨k, rfl⟩ : ∃ j, k = j + 1 := ⟨k - 1, by omega⟩
    simp only [PC.slices_Equal_string_string.l0]
    rw [if_neg (by omega), List.drop_of_length_le (by omega), List.drop_of_length_le (by omega)]
    simp
  | succ r ih =>
    intro k i h1 hk
    obtain ⟨k, rfl⟩ : ∃ j, k = j + 1 := ⟨k - 1, by omega⟩
    simp only [PC.slices_Equal_string_string.l0]
    rw [if_pos (by omega), if_pos (by omega), if_pos (by omega), if_pos (by omega), rdOf_get xs i (by omega), rdOf_get ys i (by omega), w64 _ (by omega) (by omega), List.drop_eq_getElem_cons (show i < xs.length by omega), List.drop_eq_getElem_cons (show i < ys.length by omega)]
    by_cases h : xs[i]'(by omega) = ys[i]'(by omega)
    · rw [if_pos ((toList_iff _ _).mpr h), show ((i : Int) + 1) = ((i + 1 : Nat) : Int) from rfl, ih k (i + 1) (by omega) (by omega), h, Option.some.injEq, decide_eq_decide, List.cons.injEq, eq_self_iff_true, true_and]
    · rw [if_neg (fun e => h ((toList_iff _ _).mp e)), Option.some.injEq, eq_comm, decide_eq_false_iff_not]
      exact fun e => h (List.cons.inj e).1
theorem equal_eq (xs ys : List ByteArray) (hb : xs.length ≤ 9223372036854775807) (k : Nat) (hk : xs.length < k) : PC.slices_Equal_string_string.f k xs ys = some (decide (xs = ys)) := by
  unfold PC.slices_Equal_string_string.f
  by_cases hl : xs.length = ys.length
  · rw [if_pos (by omega)]
    have := equal_l0 xs ys hl hb xs.length k 0 (by omega) hk
    rw [show ((0 : Nat) : Int) = 0 from rfl, List.drop_zero, List.drop_zero] at this
    exact this
  · rw [if_neg (by omega)]
    have : ¬ xs = ys := fun h => hl (by rw [h])
    simp [this]
theorem same1_calls (x y : Nat) (hx : x < 18446744073709551616) (hy : y < 18446744073709551616) (w : World) : Calls Try.prog 84 #[.float .f64 x, .float .f64 y] w fun e w' => e = .returned (.bool (decide (putM x = putM y))) ∧ Below w.heap.size w w' := by
  obtain ⟨SX, hSX⟩ : ∃ S, putM x = S := ⟨_, rfl⟩
  obtain ⟨SY, hSY⟩ : ∃ S, putM y = S := ⟨_, rfl⟩
  obtain ⟨r, hr⟩ : ∃ r, decide (putM x = putM y) = r := ⟨_, rfl⟩
  have ht : (SX.toList == SY.toList) = r := by
    rw [← hr, ← hSX, ← hSY, Bool.eq_iff_iff, beq_iff_eq, toList_iff, decide_eq_true_eq]
  rw [hr]
  have HSX := Aside0.mk hSX
  have HSY := Aside0.mk hSY
  have HX := Aside0.mk hx
  have HY := Aside0.mk hy
  clear hSX hSY hr hx hy
  go_enter Try.func84, Try.ntmps84
  go_wp2_with fail
  (with_reducible refine (mput_calls x HX.out _).mono ?_)
  rintro e w1 ⟨rfl, hb1⟩
  rw [HSX.out]
  have HB1 := Aside0.mk hb1
  clear hb1
  go_wp2_with fail
  (with_reducible refine (mput_calls y HY.out _).mono ?_)
  rintro e w2 ⟨rfl, hb2⟩
  rw [HSY.out]
  have HB2 := Aside0.mk (below_then HB1.out HB1.out.size hb2)
  clear hb2
  go_wp2
  go_ret
  exact ⟨rfl, HB2.out⟩
theorem same1_enter (args : Array Value) (w : World) : (callFunc 84 args).run Try.prog w = .ok (.enter 84 args) w := enter_of Try.func84 (by kernel_rfl) rfl _ _
set_option maxHeartbeats 3200000 in
theorem eqf_calls (M : Option Addr) (capm : Nat) (ms : List Nat) (M2 : Option Addr) (capm2 : Nat) (ms2 : List Nat) (w : World) (hM : Kd.C kF w M ms.length ms) (hms : ∀ x ∈ ms, x < 18446744073709551616) (hM2 : Kd.C kF w M2 ms2.length ms2) (hms2 : ∀ x ∈ ms2, x < 18446744073709551616) :
    Calls Try.prog 83 #[.slice M ms.length capm, .slice M2 ms2.length capm2, .func (.func 84) #[] #[]] w fun e w' => e = .returned (.bool (decide (ms.map putM = ms2.map putM))) ∧ Below w.heap.size w w' := by
  have HMX := Aside0.mk hM
  have HMY := Aside0.mk hM2
  have HMS := Aside0.mk hms
  have HMS2 := Aside0.mk hms2
  clear hM hM2 hms hms2
  have he := same1_enter
  by_cases g6 : ms.length = ms2.length
  rotate_left
  · have e : ((ms.length : Int) != (ms2.length : Int)) = true := by rw [bne_iff_ne]; omega
    have HV : Aside0 (decide (ms.map putM = ms2.map putM) = false) := ⟨by
      have : ¬ (ms.map putM = ms2.map putM) := fun h => g6 (by have := congrArg List.length h; simpa using this)
      simp [this]⟩
    clear g6
    go_enter Try.func83, Try.ntmps83
    go_wp2
    go_ret
    exact ⟨by rw [HV.out]; rfl, Below.refl _ _⟩
  have e6 : ((ms.length : Int) != (ms2.length : Int)) = false := by rw [bne_eq_false_iff_eq]; omega
  have HL := Aside0.mk g6
  clear g6
  obtain ⟨xs, hxs⟩ : ∃ xs, ms.map putM = xs := ⟨_, rfl⟩
  obtain ⟨ys, hys⟩ : ∃ ys, ms2.map putM = ys := ⟨_, rfl⟩
  have HXS := Aside0.mk hxs
  have HYS := Aside0.mk hys
  have hlx : xs.length = ms.length := by rw [← hxs, List.length_map]
  have hly : ys.length = ms.length := by rw [← hys, List.length_map, HL.out]
  rw [hxs, hys]
  have HLX := Aside0.mk hlx
  have HLY := Aside0.mk hly
  clear hxs hys hlx hly
  go_enter Try.func83, Try.ntmps83
  go_wp2_with fail
  go_loopw [17] (fun i wr => ∃ j : Nat, j ≤ ms.length ∧ i = .int .i64 j ∧ Aside0 (xs.take j = ys.take j) ∧ Aside0 (Below w.heap.size w wr)) (fun i _ => ms.length - (intOf i).toNat)
  case atStart => exact ⟨0, Nat.zero_le _, rfl, ⟨rfl⟩, ⟨Below.refl _ _⟩⟩
  case round =>
    obtain ⟨j, hj, rfl, HTK, HWR⟩ := hrel
    have hmx1 := HMX.out.2.1
    have hmx2 := HMY.out.2.1
    by_cases hjn : j < ms.length
    · have hjn2 : j < ms2.length := by have := HL.out; omega
      obtain ⟨ad, hM, hcell⟩ := C_F (Kd.C_below HMX.out HWR.out) j hjn
      obtain ⟨ad2, hM2, hcell2⟩ := C_F (Kd.C_below HMY.out HWR.out) j hjn2
      have hd : decide ((j : Int) < (ms.length : Int)) = true := by simp; omega
      have hx : ms[j] < 18446744073709551616 := HMS.out _ (List.getElem_mem hjn)
      have hy : ms2[j] < 18446744073709551616 := HMS2.out _ (List.getElem_mem hjn2)
      have hxj : xs[j]'(by have := HLX.out; omega) = putM ms[j] := by
        have h := HXS.out
        subst h
        simp
      have hyj : ys[j]'(by have := HLY.out; omega) = putM ms2[j] := by
        have h := HYS.out
        subst h
        simp
      obtain ⟨x, hxx⟩ : ∃ x, ms[j] = x := ⟨_, rfl⟩
      obtain ⟨y, hyy⟩ : ∃ y, ms2[j] = y := ⟨_, rfl⟩
      rw [hxx] at hx hcell hxj
      rw [hyy] at hy hcell2 hyj
      have HX := Aside0.mk hx
      have HY := Aside0.mk hy
      have HTX := Aside0.mk (show xs.take (j + 1) = xs.take j ++ [putM x] from by rw [List.take_succ_eq_append_getElem (by have := HLX.out; omega), hxj])
      have HTY := Aside0.mk (show ys.take (j + 1) = ys.take j ++ [putM y] from by rw [List.take_succ_eq_append_getElem (by have := HLY.out; omega), hyj])
      subst hM; subst hM2
      clear hxx hyy hx hy hxj hyj
      by_cases hs : putM x = putM y
      · have HEQ := Aside0.mk hs
        clear hs
        go_wp2_with fail
        refine (same1_calls x y HX.out HY.out _).mono ?_
        rintro e w2 ⟨rfl, hb2⟩
        rw [show decide (putM x = putM y) = true from by simp [HEQ.out]]
        have HB2 := Aside0.mk (below_then HWR.out HWR.out.size hb2)
        clear hb2
        go_wp2_with fail
        go_roundw
        case rel => exact ⟨j + 1, by omega, by go_num, ⟨by rw [HTX.out, HTY.out, HTK.out, HEQ.out]⟩, HB2⟩
        case measure => simp [intOf]; omega
      · have HNE := Aside0.mk hs
        clear hs
        go_wp2_with fail
        refine (same1_calls x y HX.out HY.out _).mono ?_
        rintro e w2 ⟨rfl, hb2⟩
        rw [show decide (putM x = putM y) = false from by simp [HNE.out]]
        have HB2 := Aside0.mk (below_then HWR.out HWR.out.size hb2)
        clear hb2
        go_wp2
        go_ret
        refine ⟨?_, HB2.out⟩
        have hne : ¬ xs = ys := fun h => by
          have h1 := HTX.out
          rw [h, HTY.out] at h1
          exact HNE.out (List.cons.inj (List.append_inj_right' h1 rfl)).1.symm
        simp [hne]
    · obtain rfl : ms.length = j := by omega
      have hd : decide ((ms.length : Int) < (ms.length : Int)) = false := by simp
      have hfull : xs = ys := by
        have h := HTK.out
        rw [List.take_of_length_le (by have := HLX.out; omega), List.take_of_length_le (by have := HLY.out; omega)] at h
        exact h
      have HF := Aside0.mk hfull
      clear hfull
      go_wp2
      go_ret
      exact ⟨by rw [HF.out]; simp, HWR.out⟩
set_option maxHeartbeats 6400000 in
theorem cSame_calls (code line col cnt : Int) (tx : ByteArray) (A : Option Addr) (cap : Nat) (ts : List ByteArray) (M : Option Addr) (capm : Nat) (ms : List Nat) (code2 line2 col2 cnt2 : Int) (tx2 : ByteArray) (A2 : Option Addr) (cap2 : Nat) (ts2 : List ByteArray) (M2 : Option Addr) (capm2 : Nat) (ms2 : List Nat) (w : World)
    (hA : Kd.C Kd.string w A ts.length ts) (hca : ts.length ≤ cap) (hM : Kd.C kF w M ms.length ms) (hms : ∀ x ∈ ms, x < 18446744073709551616) (hB : Kd.C Kd.string w A2 ts2.length ts2) (hcb : ts2.length ≤ cap2) (hM2 : Kd.C kF w M2 ms2.length ms2) (hms2 : ∀ x ∈ ms2, x < 18446744073709551616) :
    Calls Try.prog 36 #[.agg #[.int .i64 code, .int .i64 line, .int .i64 col, .int .i64 cnt, .string tx, .slice A ts.length cap, .slice M ms.length capm], .agg #[.int .i64 code2, .int .i64 line2, .int .i64 col2, .int .i64 cnt2, .string tx2, .slice A2 ts2.length cap2, .slice M2 ms2.length capm2]] w fun e w' => e = .returned (.bool (alikeV ⟨code, line, col, cnt, tx, ts, ms⟩ ⟨code2, line2, col2, cnt2, tx2, ts2, ms2⟩)) ∧ Below w.heap.size w w' := by
  have hu := Try.underlying44
  have HM := Aside0.mk hA.2.1
  have HA := Aside0.mk hA
  have HCA := Aside0.mk hca
  have HB := Aside0.mk hB
  have HCB := Aside0.mk hcb
  have HMX := Aside0.mk hM
  have HMY := Aside0.mk hM2
  have HMS := Aside0.mk hms
  have HMS2 := Aside0.mk hms2
  clear hA hca hB hcb hM hM2 hms hms2
  have HW := Aside0.mk (below_alloc (below_alloc (Below.refl w.heap.size w) (.cells #[.int .i64 code, .int .i64 line, .int .i64 col, .int .i64 cnt, .string tx, .slice A ts.length cap, .slice M ms.length capm] 44)) (.cells #[.int .i64 code2, .int .i64 line2, .int .i64 col2, .int .i64 cnt2, .string tx2, .slice A2 ts2.length cap2, .slice M2 ms2.length capm2] 44))
  by_cases g0 : code = code2
  rotate_left
  · have e : (code == code2) = false := by rw [beq_eq_false_iff_ne]; exact g0
    have HV : Aside0 (alikeV ⟨code, line, col, cnt, tx, ts, ms⟩ ⟨code2, line2, col2, cnt2, tx2, ts2, ms2⟩ = false) := ⟨by simp [alikeV, g0]⟩
    clear g0
    go_enter Try.func36, Try.ntmps36
    go_wp2
    go_ret
    exact ⟨by rw [HV.out]; rfl, HW.out⟩
  subst g0
  have q0 : (code == code) = true := by simp
  by_cases g1 : line = line2
  rotate_left
  · have e : (line == line2) = false := by rw [beq_eq_false_iff_ne]; exact g1
    have HV : Aside0 (alikeV ⟨code, line, col, cnt, tx, ts, ms⟩ ⟨code, line2, col2, cnt2, tx2, ts2, ms2⟩ = false) := ⟨by simp [alikeV, g1]⟩
    clear g1
    go_enter Try.func36, Try.ntmps36
    go_wp2
    go_ret
    exact ⟨by rw [HV.out]; rfl, HW.out⟩
  subst g1
  have q1 : (line == line) = true := by simp
  by_cases g2 : col = col2
  rotate_left
  · have e : (col == col2) = false := by rw [beq_eq_false_iff_ne]; exact g2
    have HV : Aside0 (alikeV ⟨code, line, col, cnt, tx, ts, ms⟩ ⟨code, line, col2, cnt2, tx2, ts2, ms2⟩ = false) := ⟨by simp [alikeV, g2]⟩
    clear g2
    go_enter Try.func36, Try.ntmps36
    go_wp2
    go_ret
    exact ⟨by rw [HV.out]; rfl, HW.out⟩
  subst g2
  have q2 : (col == col) = true := by simp
  by_cases g3 : cnt = cnt2
  rotate_left
  · have e : (cnt == cnt2) = false := by rw [beq_eq_false_iff_ne]; exact g3
    have HV : Aside0 (alikeV ⟨code, line, col, cnt, tx, ts, ms⟩ ⟨code, line, col, cnt2, tx2, ts2, ms2⟩ = false) := ⟨by simp [alikeV, g3]⟩
    clear g3
    go_enter Try.func36, Try.ntmps36
    go_wp2
    go_ret
    exact ⟨by rw [HV.out]; rfl, HW.out⟩
  subst g3
  have q3 : (cnt == cnt) = true := by simp
  by_cases g4 : tx = tx2
  rotate_left
  · have e1 : (tx.toList == tx2.toList) = false := by rw [beq_eq_false_iff_ne, ne_eq, toList_iff]; exact g4
    have HV : Aside0 (alikeV ⟨code, line, col, cnt, tx, ts, ms⟩ ⟨code, line, col, cnt, tx2, ts2, ms2⟩ = false) := ⟨by simp [alikeV, toList_iff, g4]⟩
    clear g4
    go_enter Try.func36, Try.ntmps36
    go_wp2
    go_ret
    exact ⟨by rw [HV.out]; rfl, HW.out⟩
  subst g4
  have q4 : (tx.toList == tx.toList) = true := by simp
  by_cases g5 : ts = ts2
  rotate_left
  · have HT : Aside0 (PC.slices_Equal_string_string.f (ts.length + 1) ts ts2 = some false) := ⟨by rw [equal_eq ts ts2 HM.out _ (by omega)]; simp [g5]⟩
    have HV : Aside0 (alikeV ⟨code, line, col, cnt, tx, ts, ms⟩ ⟨code, line, col, cnt, tx, ts2, ms2⟩ = false) := ⟨by simp [alikeV, g5]⟩
    clear g5
    go_enter Try.func36, Try.ntmps36
    go_wp2_with (go_at_call 82; (with_reducible refine (PC.slices_Equal_string_string.calls _ A cap ts A2 cap2 ts2 false _ (Kd.C_below HA.out HW.out) HCA.out (Kd.C_below HB.out HW.out) HCB.out HT.out).mono ?_); rintro e w' ⟨rfl, ⟨nd, rfl⟩⟩)
    go_ret
    exact ⟨by rw [HV.out]; rfl, pw_below_drewN HW.out _⟩
  subst g5
  have HT : Aside0 (PC.slices_Equal_string_string.f (ts.length + 1) ts ts = some true) := ⟨by rw [equal_eq ts ts HM.out _ (by omega)]; simp⟩
  have HV : Aside0 (alikeV ⟨code, line, col, cnt, tx, ts, ms⟩ ⟨code, line, col, cnt, tx, ts, ms2⟩ = decide (ms.map putM = ms2.map putM)) := ⟨by simp [alikeV]⟩
  go_enter Try.func36, Try.ntmps36
  go_wp2_with (first
    | (go_at_call 82; (with_reducible refine (PC.slices_Equal_string_string.calls _ A cap ts A2 cap2 ts true _ (Kd.C_below HA.out HW.out) HCA.out (Kd.C_below HB.out HW.out) HCB.out HT.out).mono ?_); rintro e w' ⟨rfl, ⟨nd, rfl⟩⟩)
    | (go_at_call 83; (with_reducible refine (eqf_calls M capm ms M2 capm2 ms2 _ (Kd.C_below HMX.out (by first | exact pw_below_drewN HW.out _ | exact HW.out)) HMS.out (Kd.C_below HMY.out (by first | exact pw_below_drewN HW.out _ | exact HW.out)) HMS2.out).mono ?_); rintro e w5 ⟨rfl, hb5⟩; rw [← HV.out]; have HB5 := Aside0.mk (below_then (by first | exact pw_below_drewN HW.out _ | exact HW.out) (by first | exact (pw_below_drewN HW.out _).size | exact HW.out.size) hb5); clear hb5))
  go_ret
  exact ⟨rfl, HB5.out⟩
end Go.Proofs.Ytnajmemcdipknaa.PK
namespace Go.Proofs.Ytnajmemcdipknaa.PK
open Go.RowKit Go.Proofs.YtnajmemcdipknaaW.PrintWords Go.Proofs.YtnajmemcdipknaaW.PrintLast Go.Proofs.YtnajmemcdipknaaW.PrintMore
open Go.ChangeShapes Go.WideShapes
set_option linter.unusedVariables false
set_option linter.unusedSimpArgs false
set_option maxRecDepth 100000
end Go.Proofs.Ytnajmemcdipknaa.PK
namespace Go.Proofs.Ytnajmemcdipknaa.PK
open Go.RowKit Go.Proofs.YtnajmemcdipknaaW.PrintWords Go.Proofs.YtnajmemcdipknaaW.PrintLast Go.Proofs.YtnajmemcdipknaaW.PrintMore
open Go.ChangeShapes Go.WideShapes
set_option linter.unusedVariables false
set_option linter.unusedSimpArgs false
set_option maxRecDepth 100000
end Go.Proofs.Ytnajmemcdipknaa.PK
namespace Go.Proofs.Ytnajmemcdipknaa.PK
open Go.RowKit Go.Proofs.YtnajmemcdipknaaW.PrintWords Go.Proofs.YtnajmemcdipknaaW.PrintLast Go.Proofs.YtnajmemcdipknaaW.PrintMore
set_option linter.unusedVariables false
set_option linter.unusedSimpArgs false
set_option maxRecDepth 100000
theorem textL_rng (s : ByteArray) : ∀ y ∈ textL s, 0 ≤ y ∧ y ≤ 255 := by
  intro y hy
  unfold textL at hy
  split at hy
  · simp at hy
  · rcases List.mem_append.1 hy with h | h
    · exact putL_range _ y h
    · exact bytesOf_range s y h
theorem textsL_rng (xs : List ByteArray) : ∀ y ∈ textsL xs, 0 ≤ y ∧ y ≤ 255 := by
  intro y hy
  unfold textsL at hy
  rcases List.mem_append.1 hy with h | h
  · exact putL_range _ y h
  · obtain ⟨z, _, hz⟩ := List.mem_flatMap.1 h
    exact textL_rng z y hz
theorem cmdL_rng (k : Int) (who nm ot tx : ByteArray) (wd : List ByteArray) (a b c d : Int) : ∀ y ∈ cmdL k who nm ot tx wd a b c d, 0 ≤ y ∧ y ≤ 255 := by
  intro y hy
  unfold cmdL at hy
  simp only [List.mem_append] at hy
  rcases hy with ((((((((h | h) | h) | h) | h) | h) | h) | h) | h) | h
  all_goals first | exact putL_range _ y h | exact textL_rng _ y h | exact textsL_rng _ y h
theorem fits_rng {n : Int} (h : fitsN n = true) : -9007199254740992 ≤ n ∧ n ≤ 9007199254740992 := by unfold fitsN at h; simpa using h
theorem get_put_cmd (k : Int) (who nm ot tx : ByteArray) (wd : List ByteArray) (a b c d : Int) (h : goodC k who nm ot tx wd a b c d = true) : getC (putC k who nm ot tx wd a b c d) = (⟨k, who, nm, ot, tx, wd, a, b, c, d⟩, 0) := by
  obtain ⟨⟨f1, f2⟩, f3, f4, f5, f6, f7, f8, fa, fb, fc, fd⟩ := good_facts h
  obtain ⟨s, hs⟩ : ∃ s, putC k who nm ot tx wd a b c d = s := ⟨_, rfl⟩
  have hb : bytesOf s = putL k ++ (textL who ++ (textL nm ++ (textL ot ++ (textL tx ++ (textsL wd ++ (putL a ++ (putL b ++ (putL c ++ (putL d ++ []))))))))) := by
    rw [← hs]
    unfold putC
    rw [if_pos h, strOf_bytes _ (cmdL_rng _ _ _ _ _ _ _ _ _ _)]
    simp only [cmdL, List.append_assoc, List.append_nil]
  obtain ⟨s0, h0, b0⟩ := rd_int k (by omega) s _ hb
  obtain ⟨s1, h1, b1⟩ := rd_text who (by omega) s0 _ b0
  obtain ⟨s2, h2, b2⟩ := rd_text nm (by omega) s1 _ b1
  obtain ⟨s3, h3, b3⟩ := rd_text ot (by omega) s2 _ b2
  obtain ⟨s4, h4, b4⟩ := rd_text tx (by omega) s3 _ b3
  obtain ⟨s5, h5, b5⟩ := rd_textsN 64 wd (fun x hx => by have := f8 x hx; omega) (by omega) (by omega) s4 _ b4
  obtain ⟨s6, h6, b6⟩ := rd_int a (fits_rng fa) s5 _ b5
  obtain ⟨s7, h7, b7⟩ := rd_int b (fits_rng fb) s6 _ b6
  obtain ⟨s8, h8, b8⟩ := rd_int c (fits_rng fc) s7 _ b7
  obtain ⟨s9, h9, b9⟩ := rd_int d (fits_rng fd) s8 _ b8
  have e0 : rk s = (k, s0, 0) := h0
  have e1 : r1 s = (who, s1, 0) := by unfold r1; rw [e0]; exact h1
  have e2 : r2 s = (nm, s2, 0) := by unfold r2; rw [e1]; exact h2
  have e3 : r3 s = (ot, s3, 0) := by unfold r3; rw [e2]; exact h3
  have e4 : r4 s = (tx, s4, 0) := by unfold r4; rw [e3]; exact h4
  have e5 : r5 s = (wd, s5, 0) := by unfold r5; rw [e4]; exact h5
  have e6 : r6 s = (a, s6, 0) := by unfold r6; rw [e5]; exact h6
  have e7 : r7 s = (b, s7, 0) := by unfold r7; rw [e6]; exact h7
  have e8 : r8 s = (c, s8, 0) := by unfold r8; rw [e7]; exact h8
  have e9 : r9 s = (d, s9, 0) := by unfold r9; rw [e8]; exact h9
  have er : readC s = ⟨k, who, nm, ot, tx, wd, a, b, c, d⟩ := by unfold readC; rw [e0, e1, e2, e3, e4, e5, e6, e7, e8, e9]
  have hz : s9.size = 0 := by rw [← bytesOf_len, b9]; rfl
  rw [hs]
  unfold getC goodV
  rw [er, e9, if_neg (by simp), if_neg (by simp [h]), if_pos hz]
end Go.Proofs.Ytnajmemcdipknaa.PK
namespace Go.Proofs.Ytnajmemcdipknaa.PK
open Go.RowKit Go.Proofs.YtnajmemcdipknaaW.PrintWords Go.Proofs.YtnajmemcdipknaaW.PrintLast Go.Proofs.YtnajmemcdipknaaW.PrintMore
set_option linter.unusedVariables false
set_option linter.unusedSimpArgs false
set_option maxRecDepth 100000
end Go.Proofs.Ytnajmemcdipknaa.PK
namespace Go.Proofs.Ytnajmemcdipknaa.PK
open Go.RowKit Go.Proofs.YtnajmemcdipknaaW.PrintWords Go.Proofs.YtnajmemcdipknaaW.PrintLast Go.Proofs.YtnajmemcdipknaaW.PrintMore
open Go.ChangeShapes Go.WideShapes
set_option linter.unusedVariables false
set_option linter.unusedSimpArgs false
set_option maxRecDepth 100000
theorem undo_good : goodC 11 ⟨#[97]⟩ ⟨#[]⟩ ⟨#[]⟩ ⟨#[]⟩ [] 0 0 0 0 = true := by decide +kernel
theorem undo_put : putC 11 ⟨#[97]⟩ ⟨#[]⟩ ⟨#[]⟩ ⟨#[]⟩ [] 0 0 0 0 = ⟨#[1, 11, 1, 1, 97, 0, 0, 0, 0, 0, 0, 0, 0]⟩ := by decide +kernel
theorem undo_get : getC ⟨#[1, 11, 1, 1, 97, 0, 0, 0, 0, 0, 0, 0, 0]⟩ = (⟨11, ⟨#[97]⟩, ⟨#[]⟩, ⟨#[]⟩, ⟨#[]⟩, [], 0, 0, 0, 0⟩, 0) := by
  rw [← undo_put]
  exact get_put_cmd _ _ _ _ _ _ _ _ _ _ undo_good
set_option maxHeartbeats 1600000 in
theorem speaks21_calls (w : World) : Calls Try.prog 12 #[] w fun e w' => e = .returned (.bool true) ∧ Below w.heap.size w w' := by
  have hu := Try.underlying28
  go_enter Try.func12, Try.ntmps12
  go_wp2_with fail
  refine (cPut_calls 11 ⟨#[97]⟩ ⟨#[]⟩ ⟨#[]⟩ ⟨#[]⟩ none 0 [] 0 0 0 0 w (by decide) (by decide) (by decide) ⟨rfl, by decide, fun h => absurd h (by decide)⟩ (by decide)).mono ?_
  rintro e w1 ⟨rfl, hb1⟩
  rw [undo_put]
  have HB1 := Aside0.mk hb1
  clear hb1
  go_wp2_with fail
  refine (cGet_calls ⟨#[1, 11, 1, 1, 97, 0, 0, 0, 0, 0, 0, 0, 0]⟩ w1).mono ?_
  rintro e w2 ⟨A, cap, rfl, _, _, hb2⟩
  rw [undo_get]
  have HB2 := Aside0.mk (below_then HB1.out HB1.out.size hb2)
  clear hb2
  unfold cellsV
  go_wp2
  go_ret
  exact ⟨rfl, by repeat (first | (with_reducible first | exact HB2.out | apply below_alloc | apply pw_below_drewN | apply below_drew1) | exact HB2.out)⟩
end Go.Proofs.Ytnajmemcdipknaa.PK
namespace Go.Proofs.Ytnajmemcdipknaa.PK
open Go.RowKit Go.Proofs.YtnajmemcdipknaaW.PrintWords Go.Proofs.YtnajmemcdipknaaW.PrintLast Go.Proofs.YtnajmemcdipknaaW.PrintMore
open Go.ChangeShapes Go.WideShapes
set_option linter.unusedVariables false
set_option linter.unusedSimpArgs false
set_option maxRecDepth 100000
theorem badTexts_ok {xs : List ByteArray} (h1 : xs.length ≤ 65536) (h2 : ∀ x ∈ xs, x.size ≤ 65536) : badTexts xs = false := by
  unfold badTexts
  rw [show decide ((xs.length : Int) ≤ 65536) = true by simp; omega, Bool.not_true, Bool.false_or, List.any_eq_false]
  intro s hs
  have := h2 s hs
  simp; omega
theorem repL_rng (code line col cnt : Int) (tx : ByteArray) (ts : List ByteArray) (ms : List Nat) : ∀ y ∈ repL code line col cnt tx ts ms, 0 ≤ y ∧ y ≤ 255 := by
  intro y hy
  unfold repL at hy
  simp only [List.mem_append] at hy
  rcases hy with ((((((h | h) | h) | h) | h) | h) | h) | h
  · simp at h
  all_goals first | exact putL_range _ y h | exact textL_rng _ y h | exact textsL_rng _ y h
end Go.Proofs.Ytnajmemcdipknaa.PK
namespace Go.Proofs.Ytnajmemcdipknaa.PK
open Go.RowKit Go.Proofs.YtnajmemcdipknaaW.PrintWords Go.Proofs.YtnajmemcdipknaaW.PrintLast Go.Proofs.YtnajmemcdipknaaW.PrintMore
open Go.ChangeShapes Go.WideShapes
set_option linter.unusedVariables false
set_option linter.unusedSimpArgs false
set_option maxRecDepth 100000
theorem putM_size (x : Nat) : (putM x).size = 8 := by unfold putM; rw [strOfNums_size, beL_length]
theorem badMarks (ms : List Nat) (h : ms.length ≤ 50) : badTexts (ms.map putM) = false := badTexts_ok (by rw [List.length_map]; omega) (fun x hx => by obtain ⟨y, _, rfl⟩ := List.mem_map.1 hx; rw [putM_size]; omega)
theorem three_cells {W : World} {g : Nat} {T : TypeId} {c0 c1 c2 c3 c4 c5 c6 : Value} (h : W.heap[g]? = some (.cells #[c0, c1, c2, c3, c4, c5, c6] T (0, 0))) : W.cell? ⟨g, 4, none⟩ = some c4 ∧ W.cell? ⟨g, 5, none⟩ = some c5 ∧ W.cell? ⟨g, 6, none⟩ = some c6 :=
  ⟨(blk_cell h 4).trans rfl, (blk_cell h 5).trans rfl, (blk_cell h 6).trans rfl⟩
set_option maxHeartbeats 12800000 in
theorem rPutReply_calls (code line col cnt : Int) (tx : ByteArray) (A : Option Addr) (cap : Nat) (ts : List ByteArray) (M : Option Addr) (capm : Nat) (ms : List Nat) (w : World) (hA : Kd.C Kd.string w A ts.length ts) (hca : ts.length ≤ cap) (hM : Kd.C kF w M ms.length ms) (hms : ∀ x ∈ ms, x < 18446744073709551616)
    (hn : (-9223372036854775808 ≤ code ∧ code ≤ 9223372036854775807) ∧ (-9223372036854775808 ≤ line ∧ line ≤ 9223372036854775807) ∧ (-9223372036854775808 ≤ col ∧ col ≤ 9223372036854775807) ∧ (-9223372036854775808 ≤ cnt ∧ cnt ≤ 9223372036854775807))
    (h1 : tx.size ≤ 2000) (h2 : ts.length ≤ 50) (h3 : ∀ s ∈ ts, s.size ≤ 500) (h4 : ms.length ≤ 50) :
    Calls Try.prog 35 #[.agg #[.int .i64 code, .int .i64 line, .int .i64 col, .int .i64 cnt, .string tx, .slice A ts.length cap, .slice M ms.length capm]] w fun e w' => e = .returned (.string (putR code line col cnt tx ts ms)) ∧ Below w.heap.size w w' := by
  have hu := Try.underlying48
  have HA := Aside0.mk hA
  have HCA := Aside0.mk hca
  have HM := Aside0.mk hM
  have HMS := Aside0.mk hms
  have HN := Aside0.mk hn
  have LX := Aside0.mk h1
  have LT := Aside0.mk h2
  have LS := Aside0.mk h3
  have LM := Aside0.mk h4
  have d1 : decide ((4096 : Int) < (ts.length : Int)) = false := by simp; omega
  have d2 : decide ((4096 : Int) < (ms.length : Int)) = false := by simp; omega
  have d3 : decide ((65536 : Int) < (tx.size : Int)) = false := by simp; omega
  have hbx : (((w.alloc (.cells #[.int .i64 code, .int .i64 line, .int .i64 col, .int .i64 cnt, .string tx, .slice A ts.length cap, .slice M ms.length capm] 48)).alloc (.cells #[.int .i64 code, .int .i64 line, .int .i64 col, .int .i64 cnt] 3)).heap[w.heap.size]? = some (.cells #[.int .i64 code, .int .i64 line, .int .i64 col, .int .i64 cnt, .string tx, .slice A ts.length cap, .slice M ms.length capm] 48 (0, 0))) := (heap_alloc_old _ _ (by simp)).trans (heap_new' rfl)
  have hbn : (((w.alloc (.cells #[.int .i64 code, .int .i64 line, .int .i64 col, .int .i64 cnt, .string tx, .slice A ts.length cap, .slice M ms.length capm] 48)).alloc (.cells #[.int .i64 code, .int .i64 line, .int .i64 col, .int .i64 cnt] 3)).heap[w.heap.size + 1]? = some (.cells #[.int .i64 code, .int .i64 line, .int .i64 col, .int .i64 cnt] 3 (0, 0))) := heap_new' (by simp)
  have hbw : Below w.heap.size w ((w.alloc (.cells #[.int .i64 code, .int .i64 line, .int .i64 col, .int .i64 cnt, .string tx, .slice A ts.length cap, .slice M ms.length capm] 48)).alloc (.cells #[.int .i64 code, .int .i64 line, .int .i64 col, .int .i64 cnt] 3)) := below_alloc (below_alloc (Below.refl _ _) _) _
  have HBX := Aside0.mk hbx
  have HBN := Aside0.mk hbn
  have HBW0 := Aside0.mk hbw
  have HSZ1 := Aside0.mk (show ((w.alloc (.cells #[.int .i64 code, .int .i64 line, .int .i64 col, .int .i64 cnt, .string tx, .slice A ts.length cap, .slice M ms.length capm] 48)).alloc (.cells #[.int .i64 code, .int .i64 line, .int .i64 col, .int .i64 cnt] 3)).heap.size = w.heap.size + 2 by simp)
  clear hA hca hM hms hn h1 h2 h3 h4 hbx hbn hbw
  go_enter Try.func35, Try.ntmps35
  go_wp2_with fail
  go_loopw [4, 5] (fun s i wr => ∃ j : Nat, j ≤ 4 ∧ i = .int .i64 j ∧ ∃ acc, s = .string acc ∧ Aside0 (acc = strOfNums (([code, line, col, cnt].take j).flatMap putL)) ∧ Aside0 (acc.size ≤ 8 * j) ∧ Aside0 (∀ k, k < j → fitsN ([code, line, col, cnt].getD k 0) = true) ∧ Aside0 (Below (w.heap.size + 2) ((w.alloc (.cells #[.int .i64 code, .int .i64 line, .int .i64 col, .int .i64 cnt, .string tx, .slice A ts.length cap, .slice M ms.length capm] 48)).alloc (.cells #[.int .i64 code, .int .i64 line, .int .i64 col, .int .i64 cnt] 3)) wr) ∧ Aside0 (Below w.heap.size w wr)) (fun _ i _ => 4 - (intOf i).toNat)
  case atStart => exact ⟨0, Nat.zero_le _, rfl, _, rfl, ⟨rfl⟩, ⟨Nat.le_refl _⟩, ⟨fun k hk => absurd hk (by omega)⟩, ⟨Below.refl _ _⟩, HBW0⟩
  case round =>
    obtain ⟨j, hj, rfl, acc, rfl, HAC, HAZ, HFI, HWR, HBW⟩ := hrel
    have HXX := Aside0.mk ((HWR.out.block w.heap.size (by omega)).trans HBX.out)
    have HXN : wr.heap[w.heap.size + 1]? = some (.cells #[.int .i64 code, .int .i64 line, .int .i64 col, .int .i64 cnt] 3 (0, 0)) := (HWR.out.block (w.heap.size + 1) (by omega)).trans HBN.out
    rcases (show j = 0 ∨ j = 1 ∨ j = 2 ∨ j = 3 ∨ j = 4 from by omega) with rfl | rfl | rfl | rfl | rfl
    · have hz : wr.cell? ⟨w.heap.size + 1, 0, none⟩ = some (.int .i64 code) := (blk_cell HXN 0).trans rfl
      obtain ⟨S, hS⟩ : ∃ S, strOfNums (putL code) = S := ⟨_, rfl⟩
      have hsz : S.size ≤ 8 := by rw [← hS, size_put]; exact putL_len code
      have hpe := put_empty code
      rw [hS] at hpe
      have HP : Aside0 (primerref01_Put.f 20 code = some S) := ⟨by rw [refPut_eq code HN.out.1 20 (by omega), hS]⟩
      have HSS := Aside0.mk hS
      have hacc := HAZ.out
      have cs0 : acc.size + S.size ≤ 9223372036854775807 := by omega
      have cs1 := eq_true cs0
      have cs2 : decide (acc.size + S.size ≤ 9223372036854775807) = true := decide_eq_true cs0
      have cs3 : (9223372036854775807 < acc.size + S.size) = False := eq_false (Nat.not_lt.2 cs0)
      have HZS := Aside0.mk hsz
      clear hS cs0 hacc hsz
      cases hft : fitsN code
      · rw [hft] at hpe
        have m2 : S.toList.isEmpty = true := by simpa using hpe
        have m1 : (S.toList == ([] : List UInt8)) = true := by rw [beq_iff_eq]; exact List.isEmpty_iff.mp m2
        have HV : Aside0 (putR code line col cnt tx ts ms = ⟨#[]⟩) := ⟨by unfold putR; rw [if_neg (by have := LT.out; have := LM.out; omega), if_pos (by simp [repBad, hft])]⟩
        clear hpe hft
        go_wp2_with fail
        (with_reducible refine (primerref01_Put.calls 20 code S _ HP.out).mono ?_)
        rintro e w5 ⟨rfl, hb5⟩
        have HB5 := Aside0.mk (below_then HBW.out HBW.out.size hb5)
        clear hb5
        go_wp2
        go_ret
        exact ⟨by rw [HV.out]; rfl, HB5.out⟩
      · rw [hft] at hpe
        have m2 : S.toList.isEmpty = false := by simpa using hpe
        have m1 : (S.toList == ([] : List UInt8)) = false := by rw [beq_eq_false_iff_ne]; intro h; rw [h] at m2; simp at m2
        have HFT := Aside0.mk hft
        clear hpe hft
        go_wp2_with fail
        (with_reducible refine (primerref01_Put.calls 20 code S _ HP.out).mono ?_)
        rintro e w5 ⟨rfl, hb5⟩
        have HB5 := Aside0.mk (below_then HBW.out HBW.out.size hb5)
        have HX5 : Aside0 (Below (w.heap.size + 2) ((w.alloc (.cells #[.int .i64 code, .int .i64 line, .int .i64 col, .int .i64 cnt, .string tx, .slice A ts.length cap, .slice M ms.length capm] 48)).alloc (.cells #[.int .i64 code, .int .i64 line, .int .i64 col, .int .i64 cnt] 3)) w5) := ⟨(HWR.out.trans (hb5.mono (by have := HWR.out.size; simpa using this)))⟩
        clear hb5
        go_wp2_with fail
        go_roundw
        case rel => exact ⟨1, by omega, rfl, acc ++ S, rfl, ⟨by rw [HAC.out, ← HSS.out, ← strOf_append]; simp only [List.take, List.flatMap_cons, List.flatMap_nil, List.append_nil, List.nil_append, List.append_assoc]⟩, ⟨by have := HAZ.out; have := HZS.out; rw [size_app]; omega⟩, ⟨fun k hk => by rcases (show k = 0 from by omega) with rfl <;> first | exact HFT.out | exact HFI.out _ (by omega)⟩, HX5, HB5⟩
        case measure => simp [intOf]
    · have hz : wr.cell? ⟨w.heap.size + 1, 1, none⟩ = some (.int .i64 line) := (blk_cell HXN 1).trans rfl
      obtain ⟨S, hS⟩ : ∃ S, strOfNums (putL line) = S := ⟨_, rfl⟩
      have hsz : S.size ≤ 8 := by rw [← hS, size_put]; exact putL_len line
      have hpe := put_empty line
      rw [hS] at hpe
      have HP : Aside0 (primerref01_Put.f 20 line = some S) := ⟨by rw [refPut_eq line HN.out.2.1 20 (by omega), hS]⟩
      have HSS := Aside0.mk hS
      have hacc := HAZ.out
      have cs0 : acc.size + S.size ≤ 9223372036854775807 := by omega
      have cs1 := eq_true cs0
      have cs2 : decide (acc.size + S.size ≤ 9223372036854775807) = true := decide_eq_true cs0
      have cs3 : (9223372036854775807 < acc.size + S.size) = False := eq_false (Nat.not_lt.2 cs0)
      have HZS := Aside0.mk hsz
      clear hS cs0 hacc hsz
      cases hft : fitsN line
      · rw [hft] at hpe
        have m2 : S.toList.isEmpty = true := by simpa using hpe
        have m1 : (S.toList == ([] : List UInt8)) = true := by rw [beq_iff_eq]; exact List.isEmpty_iff.mp m2
        have HV : Aside0 (putR code line col cnt tx ts ms = ⟨#[]⟩) := ⟨by unfold putR; rw [if_neg (by have := LT.out; have := LM.out; omega), if_pos (by simp [repBad, hft])]⟩
        clear hpe hft
        go_wp2_with fail
        (with_reducible refine (primerref01_Put.calls 20 line S _ HP.out).mono ?_)
        rintro e w5 ⟨rfl, hb5⟩
        have HB5 := Aside0.mk (below_then HBW.out HBW.out.size hb5)
        clear hb5
        go_wp2
        go_ret
        exact ⟨by rw [HV.out]; rfl, HB5.out⟩
      · rw [hft] at hpe
        have m2 : S.toList.isEmpty = false := by simpa using hpe
        have m1 : (S.toList == ([] : List UInt8)) = false := by rw [beq_eq_false_iff_ne]; intro h; rw [h] at m2; simp at m2
        have HFT := Aside0.mk hft
        clear hpe hft
        go_wp2_with fail
        (with_reducible refine (primerref01_Put.calls 20 line S _ HP.out).mono ?_)
        rintro e w5 ⟨rfl, hb5⟩
        have HB5 := Aside0.mk (below_then HBW.out HBW.out.size hb5)
        have HX5 : Aside0 (Below (w.heap.size + 2) ((w.alloc (.cells #[.int .i64 code, .int .i64 line, .int .i64 col, .int .i64 cnt, .string tx, .slice A ts.length cap, .slice M ms.length capm] 48)).alloc (.cells #[.int .i64 code, .int .i64 line, .int .i64 col, .int .i64 cnt] 3)) w5) := ⟨(HWR.out.trans (hb5.mono (by have := HWR.out.size; simpa using this)))⟩
        clear hb5
        go_wp2_with fail
        go_roundw
        case rel => exact ⟨2, by omega, rfl, acc ++ S, rfl, ⟨by rw [HAC.out, ← HSS.out, ← strOf_append]; simp only [List.take, List.flatMap_cons, List.flatMap_nil, List.append_nil, List.nil_append, List.append_assoc]⟩, ⟨by have := HAZ.out; have := HZS.out; rw [size_app]; omega⟩, ⟨fun k hk => by rcases (show k = 0 ∨ k = 1 from by omega) with rfl | rfl <;> first | exact HFT.out | exact HFI.out _ (by omega)⟩, HX5, HB5⟩
        case measure => simp [intOf]
    · have hz : wr.cell? ⟨w.heap.size + 1, 2, none⟩ = some (.int .i64 col) := (blk_cell HXN 2).trans rfl
      obtain ⟨S, hS⟩ : ∃ S, strOfNums (putL col) = S := ⟨_, rfl⟩
      have hsz : S.size ≤ 8 := by rw [← hS, size_put]; exact putL_len col
      have hpe := put_empty col
      rw [hS] at hpe
      have HP : Aside0 (primerref01_Put.f 20 col = some S) := ⟨by rw [refPut_eq col HN.out.2.2.1 20 (by omega), hS]⟩
      have HSS := Aside0.mk hS
      have hacc := HAZ.out
      have cs0 : acc.size + S.size ≤ 9223372036854775807 := by omega
      have cs1 := eq_true cs0
      have cs2 : decide (acc.size + S.size ≤ 9223372036854775807) = true := decide_eq_true cs0
      have cs3 : (9223372036854775807 < acc.size + S.size) = False := eq_false (Nat.not_lt.2 cs0)
      have HZS := Aside0.mk hsz
      clear hS cs0 hacc hsz
      cases hft : fitsN col
      · rw [hft] at hpe
        have m2 : S.toList.isEmpty = true := by simpa using hpe
        have m1 : (S.toList == ([] : List UInt8)) = true := by rw [beq_iff_eq]; exact List.isEmpty_iff.mp m2
        have HV : Aside0 (putR code line col cnt tx ts ms = ⟨#[]⟩) := ⟨by unfold putR; rw [if_neg (by have := LT.out; have := LM.out; omega), if_pos (by simp [repBad, hft])]⟩
        clear hpe hft
        go_wp2_with fail
        (with_reducible refine (primerref01_Put.calls 20 col S _ HP.out).mono ?_)
        rintro e w5 ⟨rfl, hb5⟩
        have HB5 := Aside0.mk (below_then HBW.out HBW.out.size hb5)
        clear hb5
        go_wp2
        go_ret
        exact ⟨by rw [HV.out]; rfl, HB5.out⟩
      · rw [hft] at hpe
        have m2 : S.toList.isEmpty = false := by simpa using hpe
        have m1 : (S.toList == ([] : List UInt8)) = false := by rw [beq_eq_false_iff_ne]; intro h; rw [h] at m2; simp at m2
        have HFT := Aside0.mk hft
        clear hpe hft
        go_wp2_with fail
        (with_reducible refine (primerref01_Put.calls 20 col S _ HP.out).mono ?_)
        rintro e w5 ⟨rfl, hb5⟩
        have HB5 := Aside0.mk (below_then HBW.out HBW.out.size hb5)
        have HX5 : Aside0 (Below (w.heap.size + 2) ((w.alloc (.cells #[.int .i64 code, .int .i64 line, .int .i64 col, .int .i64 cnt, .string tx, .slice A ts.length cap, .slice M ms.length capm] 48)).alloc (.cells #[.int .i64 code, .int .i64 line, .int .i64 col, .int .i64 cnt] 3)) w5) := ⟨(HWR.out.trans (hb5.mono (by have := HWR.out.size; simpa using this)))⟩
        clear hb5
        go_wp2_with fail
        go_roundw
        case rel => exact ⟨3, by omega, rfl, acc ++ S, rfl, ⟨by rw [HAC.out, ← HSS.out, ← strOf_append]; simp only [List.take, List.flatMap_cons, List.flatMap_nil, List.append_nil, List.nil_append, List.append_assoc]⟩, ⟨by have := HAZ.out; have := HZS.out; rw [size_app]; omega⟩, ⟨fun k hk => by rcases (show k = 0 ∨ k = 1 ∨ k = 2 from by omega) with rfl | rfl | rfl <;> first | exact HFT.out | exact HFI.out _ (by omega)⟩, HX5, HB5⟩
        case measure => simp [intOf]
    · have hz : wr.cell? ⟨w.heap.size + 1, 3, none⟩ = some (.int .i64 cnt) := (blk_cell HXN 3).trans rfl
      obtain ⟨S, hS⟩ : ∃ S, strOfNums (putL cnt) = S := ⟨_, rfl⟩
      have hsz : S.size ≤ 8 := by rw [← hS, size_put]; exact putL_len cnt
      have hpe := put_empty cnt
      rw [hS] at hpe
      have HP : Aside0 (primerref01_Put.f 20 cnt = some S) := ⟨by rw [refPut_eq cnt HN.out.2.2.2 20 (by omega), hS]⟩
      have HSS := Aside0.mk hS
      have hacc := HAZ.out
      have cs0 : acc.size + S.size ≤ 9223372036854775807 := by omega
      have cs1 := eq_true cs0
      have cs2 : decide (acc.size + S.size ≤ 9223372036854775807) = true := decide_eq_true cs0
      have cs3 : (9223372036854775807 < acc.size + S.size) = False := eq_false (Nat.not_lt.2 cs0)
      have HZS := Aside0.mk hsz
      clear hS cs0 hacc hsz
      cases hft : fitsN cnt
      · rw [hft] at hpe
        have m2 : S.toList.isEmpty = true := by simpa using hpe
        have m1 : (S.toList == ([] : List UInt8)) = true := by rw [beq_iff_eq]; exact List.isEmpty_iff.mp m2
        have HV : Aside0 (putR code line col cnt tx ts ms = ⟨#[]⟩) := ⟨by unfold putR; rw [if_neg (by have := LT.out; have := LM.out; omega), if_pos (by simp [repBad, hft])]⟩
        clear hpe hft
        go_wp2_with fail
        (with_reducible refine (primerref01_Put.calls 20 cnt S _ HP.out).mono ?_)
        rintro e w5 ⟨rfl, hb5⟩
        have HB5 := Aside0.mk (below_then HBW.out HBW.out.size hb5)
        clear hb5
        go_wp2
        go_ret
        exact ⟨by rw [HV.out]; rfl, HB5.out⟩
      · rw [hft] at hpe
        have m2 : S.toList.isEmpty = false := by simpa using hpe
        have m1 : (S.toList == ([] : List UInt8)) = false := by rw [beq_eq_false_iff_ne]; intro h; rw [h] at m2; simp at m2
        have HFT := Aside0.mk hft
        clear hpe hft
        go_wp2_with fail
        (with_reducible refine (primerref01_Put.calls 20 cnt S _ HP.out).mono ?_)
        rintro e w5 ⟨rfl, hb5⟩
        have HB5 := Aside0.mk (below_then HBW.out HBW.out.size hb5)
        have HX5 : Aside0 (Below (w.heap.size + 2) ((w.alloc (.cells #[.int .i64 code, .int .i64 line, .int .i64 col, .int .i64 cnt, .string tx, .slice A ts.length cap, .slice M ms.length capm] 48)).alloc (.cells #[.int .i64 code, .int .i64 line, .int .i64 col, .int .i64 cnt] 3)) w5) := ⟨(HWR.out.trans (hb5.mono (by have := HWR.out.size; simpa using this)))⟩
        clear hb5
        go_wp2_with fail
        go_roundw
        case rel => exact ⟨4, by omega, rfl, acc ++ S, rfl, ⟨by rw [HAC.out, ← HSS.out, ← strOf_append]; simp only [List.take, List.flatMap_cons, List.flatMap_nil, List.append_nil, List.nil_append, List.append_assoc]⟩, ⟨by have := HAZ.out; have := HZS.out; rw [size_app]; omega⟩, ⟨fun k hk => by rcases (show k = 0 ∨ k = 1 ∨ k = 2 ∨ k = 3 from by omega) with rfl | rfl | rfl | rfl <;> first | exact HFT.out | exact HFI.out _ (by omega)⟩, HX5, HB5⟩
        case measure => simp [intOf]
    · clear HXN
      have HFF : Aside0 (fitsN code = true ∧ fitsN line = true ∧ fitsN col = true ∧ fitsN cnt = true) := ⟨HFI.out 0 (by omega), HFI.out 1 (by omega), HFI.out 2 (by omega), HFI.out 3 (by omega)⟩
      have HBAD : Aside0 (repBad code line col cnt tx ts ms = false) := ⟨by
        obtain ⟨f0, f1, f2, f3⟩ := HFF.out
        unfold repBad
        rw [f0, f1, f2, f3, badMarks ms LM.out, badTexts_ok (by have := LT.out; omega) (fun x hx => by have := LS.out x hx; omega)]
        have := LX.out
        simp
        omega⟩
      obtain ⟨wq, rfl⟩ : ∃ wq : World, wq = wr := ⟨_, rfl⟩
      obtain ⟨z4, z5, z6⟩ := three_cells HXX.out
      have HA2 := Aside0.mk (Kd.C_below HA.out HBW.out)
      have HM2 := Aside0.mk (Kd.C_below HM.out HBW.out)
      have hmx := HA.out.2.1
      go_wp2_with fail
      go_loopw [7] (fun i wr => ∃ j : Nat, j ≤ ts.length ∧ i = .int .i64 j ∧ wr = wq) (fun i _ => ts.length - (intOf i).toNat)
      case atStart => exact ⟨0, Nat.zero_le _, rfl, rfl⟩
      case round =>
        obtain ⟨j, hj2, rfl, rfl⟩ := hrel
        by_cases hjn : j < ts.length
        · obtain ⟨ad, hA3, hcell⟩ := C_str HA2.out j hjn
          have hd : decide ((j : Int) < (ts.length : Int)) = true := by simp; omega
          have hs : (ts[j]).size ≤ 500 := LS.out _ (List.getElem_mem hjn)
          obtain ⟨x, hxx⟩ : ∃ x, ts[j] = x := ⟨_, rfl⟩
          rw [hxx] at hs hcell
          have hd2 : decide ((65536 : Int) < (x.size : Int)) = false := by simp; omega
          clear hs hxx
          subst hA3
          go_wp2_with fail
          go_roundw
          case rel => exact ⟨j + 1, by omega, by go_num, trivial⟩
          case measure => simp [intOf]; omega
        · obtain rfl : ts.length = j := by omega
          have hd : decide ((ts.length : Int) < (ts.length : Int)) = false := by simp
          obtain ⟨S4, hS4⟩ : ∃ S, strOfNums (textL tx) = S := ⟨_, rfl⟩
          obtain ⟨S5, hS5⟩ : ∃ S, strOfNums (textsL ts) = S := ⟨_, rfl⟩
          obtain ⟨S6, hS6⟩ : ∃ S, strOfNums (putL ms.length) = S := ⟨_, rfl⟩
          have y4 : S4.size ≤ 65544 := by rw [← hS4, strOfNums_size]; exact textL_len tx
          have y5 : S5.size ≤ 4000000 := by rw [← hS5, strOfNums_size]; have := textsL_len ts; have := LT.out; omega
          have y6 : S6.size ≤ 8 := by rw [← hS6, size_put]; exact putL_len ms.length
          have ya := HAZ.out
          have HP4 : Aside0 (PC.primerref21_text.f 20 tx = some S4) := ⟨by rw [rtext_eq tx (by have := LX.out; omega) 20 (by omega), hS4]⟩
          have HP5 : Aside0 (PC.primerref21_texts.f 5000 ts = some S5) := ⟨by rw [rtexts_eq ts (by have := LT.out; omega) (fun s hs => by have := LS.out s hs; omega) 5000 (by have := LT.out; omega), hS5]⟩
          have HP6 : Aside0 (primerref01_Put.f 20 ms.length = some S6) := ⟨by rw [refPut_eq ms.length (by have := LM.out; omega) 20 (by omega), hS6]⟩
          have ca0 : S4.size + S5.size ≤ 9223372036854775807 := by first | omega | (simp only [size_app]; omega)
          have ca1 := eq_true ca0
          have ca2 : decide (S4.size + S5.size ≤ 9223372036854775807) = true := decide_eq_true ca0
          have ca3 : (9223372036854775807 < S4.size + S5.size) = False := eq_false (Nat.not_lt.2 ca0)
          clear ca0
          have cb0 : (S4 ++ S5).size + S6.size ≤ 9223372036854775807 := by first | omega | (simp only [size_app]; omega)
          have cb1 := eq_true cb0
          have cb2 : decide ((S4 ++ S5).size + S6.size ≤ 9223372036854775807) = true := decide_eq_true cb0
          have cb3 : (9223372036854775807 < (S4 ++ S5).size + S6.size) = False := eq_false (Nat.not_lt.2 cb0)
          clear cb0
          have cc0 : S4.size + S5.size + S6.size ≤ 9223372036854775807 := by first | omega | (simp only [size_app]; omega)
          have cc1 := eq_true cc0
          have cc2 : decide (S4.size + S5.size + S6.size ≤ 9223372036854775807) = true := decide_eq_true cc0
          have cc3 : (9223372036854775807 < S4.size + S5.size + S6.size) = False := eq_false (Nat.not_lt.2 cc0)
          clear cc0
          have cd0 : acc.size + (S4 ++ S5 ++ S6).size ≤ 9223372036854775807 := by first | omega | (simp only [size_app]; omega)
          have cd1 := eq_true cd0
          have cd2 : decide (acc.size + (S4 ++ S5 ++ S6).size ≤ 9223372036854775807) = true := decide_eq_true cd0
          have cd3 : (9223372036854775807 < acc.size + (S4 ++ S5 ++ S6).size) = False := eq_false (Nat.not_lt.2 cd0)
          clear cd0
          have ce0 : acc.size + (S4.size + S5.size + S6.size) ≤ 9223372036854775807 := by first | omega | (simp only [size_app]; omega)
          have ce1 := eq_true ce0
          have ce2 : decide (acc.size + (S4.size + S5.size + S6.size) ≤ 9223372036854775807) = true := decide_eq_true ce0
          have ce3 : (9223372036854775807 < acc.size + (S4.size + S5.size + S6.size)) = False := eq_false (Nat.not_lt.2 ce0)
          clear ce0
          have HACC : Aside0 (acc ++ (S4 ++ S5 ++ S6) = strOfNums (putL code ++ putL line ++ putL col ++ putL cnt ++ textL tx ++ textsL ts ++ putL ms.length)) := ⟨by
            rw [HAC.out, ← hS4, ← hS5, ← hS6]
            simp only [← strOf_append]
            simp only [List.take, List.flatMap_cons, List.flatMap_nil, List.append_nil, List.append_assoc]⟩
          have HACZ : Aside0 ((acc ++ (S4 ++ S5 ++ S6)).size ≤ 5000000) := ⟨by simp only [size_app]; omega⟩
          clear hS4 hS5 hS6 y4 y5 y6 ya
          have HWc := Aside0.mk (Below.refl wr.heap.size wr)
          go_wp2_with fail
          go_region_held3 (fun w' => w'.cell? ⟨w.heap.size, 4, none⟩ = some (.string tx) ∧ w'.cell? ⟨w.heap.size, 5, none⟩ = some (.slice A ts.length cap) ∧ w'.cell? ⟨w.heap.size, 6, none⟩ = some (.slice M ms.length capm)) (first | (with_reducible exact three_cells ((HWc.out.block w.heap.size (blk_lt HXX.out)).trans HXX.out)) | (with_reducible exact three_cells (blk_drew ((HWc.out.block w.heap.size (blk_lt HXX.out)).trans HXX.out))) | go_keep) (first
            | (go_at_call 50; (with_reducible refine (PC.primerref21_text.calls 20 tx S4 _ HP4.out).mono ?_); rintro e w9 ⟨rfl, hb5⟩; have HWn := Aside0.mk (below_then (by first | exact HWc.out | exact below_drew HWc.out | exact pw_below_drewN HWc.out _) (by first | exact HWc.out.size | exact (below_drew HWc.out).size | exact (pw_below_drewN HWc.out _).size) hb5); clear HWc hb5; have HWc := HWn; clear HWn)
            | (go_at_call 51; (with_reducible refine (PC.primerref21_texts.calls 5000 A cap ts S5 _ (Kd.C_below HA2.out (by first | exact HWc.out | exact below_drew HWc.out | exact pw_below_drewN HWc.out _)) HCA.out HP5.out).mono ?_); rintro e w9 ⟨rfl, hb5⟩; have HWn := Aside0.mk (below_then (by first | exact HWc.out | exact below_drew HWc.out | exact pw_below_drewN HWc.out _) (by first | exact HWc.out.size | exact (below_drew HWc.out).size | exact (pw_below_drewN HWc.out _).size) hb5); clear HWc hb5; have HWc := HWn; clear HWn)
            | (go_at_call 49; (with_reducible refine (primerref01_Put.calls 20 ms.length S6 _ HP6.out).mono ?_); rintro e w9 ⟨rfl, hb5⟩; have HWn := Aside0.mk (below_then (by first | exact HWc.out | exact below_drew HWc.out | exact pw_below_drewN HWc.out _) (by first | exact HWc.out.size | exact (below_drew HWc.out).size | exact (pw_below_drewN HWc.out _).size) hb5); clear HWc hb5; have HWc := HWn; clear HWn))
          go_wp2_with fail
          obtain ⟨wp, rfl⟩ : ∃ wp : World, wp = wr := ⟨_, rfl⟩
          obtain ⟨xs, hxs⟩ : ∃ xs, ms.map putM = xs := ⟨_, rfl⟩
          have hlen : xs.length = ms.length := by rw [← hxs, List.length_map]
          have HXS := Aside0.mk hxs
          have HLEN := Aside0.mk hlen
          clear hxs hlen
          go_loopw [4, 8] (fun s i wx => ∃ j : Nat, j ≤ ms.length ∧ i = .int .i64 j ∧ ∃ ac, s = .string ac ∧ Aside0 (ac = acc ++ (S4 ++ S5 ++ S6) ++ strOfNums ((xs.take j).flatMap textL)) ∧ Aside0 (ac.size ≤ 5000000 + 16 * j) ∧ Aside0 (Below wp.heap.size wp wx)) (fun _ i _ => ms.length - (intOf i).toNat)
          case atStart => exact ⟨0, Nat.zero_le _, rfl, _, rfl, ⟨(app_empty _).symm⟩, ⟨HACZ.out⟩, ⟨by first | exact HWc.out | exact below_drew HWc.out | exact pw_below_drewN HWc.out _⟩⟩
          case round =>
            obtain ⟨j, hj3, rfl, ac, rfl, HAC2, HAZ2, HWX⟩ := hrel
            have hmx2 := HM.out.2.1
            have HXX2 := Aside0.mk ((HWX.out.block w.heap.size (blk_lt HXX.out)).trans HXX.out)
            obtain ⟨_, _, hz6⟩ := three_cells HXX2.out
            have HBW3 := Aside0.mk (below_then HBW.out HBW.out.size HWX.out)
            by_cases hjn2 : j < ms.length
            · obtain ⟨ad, hM3, hcell⟩ := C_F (Kd.C_below HM2.out HWX.out) j hjn2
              have hd4 : decide ((j : Int) < (ms.length : Int)) = true := by simp; omega
              have hx : ms[j] < 18446744073709551616 := HMS.out _ (List.getElem_mem hjn2)
              have hxj : xs[j]'(by have := HLEN.out; omega) = putM ms[j] := by
                have h := HXS.out
                subst h
                simp
              obtain ⟨x, hxx⟩ : ∃ x, ms[j] = x := ⟨_, rfl⟩
              rw [hxx] at hx hcell hxj
              have HX := Aside0.mk hx
              have HTK := Aside0.mk (show xs.take (j + 1) = xs.take j ++ [putM x] from by rw [List.take_succ_eq_append_getElem (by have := HLEN.out; omega), hxj])
              obtain ⟨SM, hSM⟩ : ∃ S, putM x = S := ⟨_, rfl⟩
              have hsm : SM.size = 8 := by rw [← hSM, putM_size]
              obtain ⟨ST, hST⟩ : ∃ S, strOfNums (textL SM) = S := ⟨_, rfl⟩
              have yst : ST.size ≤ 16 := by rw [← hST, strOfNums_size, textL_small (by omega), List.length_append, bytesOf_len]; have := putL_len SM.size; omega
              have yac := HAZ2.out
              have ymm := LM.out
              have HPT : Aside0 (PC.primerref21_text.f 20 SM = some ST) := ⟨by rw [rtext_eq SM (by omega) 20 (by omega), hST]⟩
              have HSM := Aside0.mk hSM
              have HST := Aside0.mk hST
              have HYST := Aside0.mk yst
              have cf0 : ac.size + ST.size ≤ 9223372036854775807 := by first | omega | (simp only [size_app]; omega)
              have cf1 := eq_true cf0
              have cf2 : decide (ac.size + ST.size ≤ 9223372036854775807) = true := decide_eq_true cf0
              have cf3 : (9223372036854775807 < ac.size + ST.size) = False := eq_false (Nat.not_lt.2 cf0)
              clear cf0
              subst hM3
              clear hxx hx hxj hSM hST hsm yst yac ymm
              go_wp2_with fail
              (with_reducible refine (mput2_calls x HX.out _).mono ?_)
              rintro e w6 ⟨rfl, hb6⟩
              rw [HSM.out]
              have HB6 := Aside0.mk (below_then HWX.out HWX.out.size hb6)
              clear hb6
              go_wp2_with fail
              (with_reducible refine (PC.primerref21_text.calls 20 SM ST _ HPT.out).mono ?_)
              rintro e w7 ⟨rfl, hb7⟩
              have HB7 := Aside0.mk (below_then HB6.out HB6.out.size hb7)
              clear hb7
              go_wp2_with fail
              go_roundw
              case rel => exact ⟨j + 1, by omega, by go_num, ac ++ ST, rfl, ⟨by rw [HTK.out, HAC2.out, List.flatMap_append, strOf_append, app_assoc]; congr 2; rw [← HST.out, ← HSM.out]; simp⟩, ⟨by have := HAZ2.out; have := HYST.out; rw [size_app]; omega⟩, HB7⟩
              case measure => simp [intOf]; omega
            · obtain rfl : ms.length = j := by omega
              have hd4 : decide ((ms.length : Int) < (ms.length : Int)) = false := by simp
              have HV : Aside0 (putR code line col cnt tx ts ms = ac) := ⟨by
                have h := HAC2.out
                rw [List.take_of_length_le (by have := HLEN.out; omega), HACC.out, ← strOf_append] at h
                unfold putR
                rw [if_neg (by have := LT.out; have := LM.out; omega), HBAD.out, if_neg (by simp), h]
                simp only [repL, textsL, HXS.out, HLEN.out, List.append_assoc, List.nil_append]⟩
              go_wp2
              go_ret
              exact ⟨by rw [HV.out]; rfl, HBW3.out⟩
end Go.Proofs.Ytnajmemcdipknaa.PK
namespace Go.Proofs.Ytnajmemcdipknaa.PK
open Go.RowKit Go.Proofs.YtnajmemcdipknaaW.PrintWords Go.Proofs.YtnajmemcdipknaaW.PrintLast Go.Proofs.YtnajmemcdipknaaW.PrintMore
open Go.ChangeShapes Go.WideShapes
set_option linter.unusedVariables false
set_option linter.unusedSimpArgs false
set_option maxRecDepth 100000
def cutS (n : Nat) (s : ByteArray) : ByteArray := if s.size ≤ n then s else s.extract 0 n
def ansT (ts : List ByteArray) : List ByteArray := (ts.take 50).map (cutS 500)
def ansM (us : List Int) : List Nat := (us.take 50).map Int.toNat
theorem five_cells {W : World} {g : Nat} {T : TypeId} {c0 c1 c2 c3 c4 c5 c6 : Value} (h : W.heap[g]? = some (.cells #[c0, c1, c2, c3, c4, c5, c6] T (0, 0))) : W.cell? ⟨g, 0, none⟩ = some c0 ∧ W.cell? ⟨g, 1, none⟩ = some c1 ∧ W.cell? ⟨g, 2, none⟩ = some c2 ∧ W.cell? ⟨g, 3, none⟩ = some c3 ∧ W.cell? ⟨g, 4, none⟩ = some c4 :=
  ⟨(blk_cell h 0).trans rfl, (blk_cell h 1).trans rfl, (blk_cell h 2).trans rfl, (blk_cell h 3).trans rfl, (blk_cell h 4).trans rfl⟩
/-- What the walk carries: the raw reply's block, the two results', the reply's. -/
structure RepSt (w W : World) (raw c : Array Value) : Prop where
  x : W.heap[w.heap.size]? = some (.cells raw 81 (0, 0))
  a : W.heap[w.heap.size + 1]? = some (.cells #[.int .i64 0, .int .i64 0, .int .i64 0, .int .i64 0, .string ⟨#[]⟩, .slice none 0 0, .slice none 0 0] 44 (0, 0))
  b : W.heap[w.heap.size + 1 + 1]? = some (.cells #[.int .i64 0, .int .i64 0, .int .i64 0, .int .i64 0, .string ⟨#[]⟩, .slice none 0 0, .slice none 0 0] 48 (0, 0))
  c : W.heap[w.heap.size + 1 + 1 + 1]? = some (.cells c 44 (0, 0))
  lo : Below w.heap.size w W
theorem RepSt.drew {w W : World} {raw c : Array Value} (h : RepSt w W raw c) : RepSt w W.drew raw c := ⟨h.x, h.a, h.b, h.c, below_drew h.lo⟩
theorem repA (w : World) (raw c : Array Value) : RepSt w ((((w.alloc (.cells raw 81)).alloc (.cells #[.int .i64 0, .int .i64 0, .int .i64 0, .int .i64 0, .string ⟨#[]⟩, .slice none 0 0, .slice none 0 0] 44)).alloc (.cells #[.int .i64 0, .int .i64 0, .int .i64 0, .int .i64 0, .string ⟨#[]⟩, .slice none 0 0, .slice none 0 0] 48)).alloc (.cells c 44)) raw c where
  x := (heap_alloc_old _ _ (by first | (simp; done) | (simp; omega))).trans ((heap_alloc_old _ _ (by first | (simp; done) | (simp; omega))).trans ((heap_alloc_old _ _ (by simp)).trans (heap_new' rfl)))
  a := (heap_alloc_old _ _ (by first | (simp; done) | (simp; omega))).trans ((heap_alloc_old _ _ (by simp)).trans (heap_new' (by simp)))
  b := (heap_alloc_old _ _ (by simp)).trans (heap_new' (by simp))
  c := heap_new' (by simp)
  lo := below_alloc (below_alloc (below_alloc (below_alloc (Below.refl _ _) _) _) _) _
def ToldA (code line col cnt : Int) (T : ByteArray) (xs : List ByteArray) (ys : List Nat) (w : World) (e : Ending) (w' : World) : Prop :=
  ∃ B capb M capm, e = .returned (.tuple #[.agg #[.int .i64 code, .int .i64 line, .int .i64 col, .int .i64 cnt, .string T, .slice B xs.length capb, .slice M ys.length capm], .agg #[.int .i64 code, .int .i64 line, .int .i64 col, .int .i64 cnt, .string T, .slice B xs.length capb, .slice M ys.length capm]]) ∧
    Kd.C Kd.string w' B xs.length xs ∧ xs.length ≤ capb ∧ Kd.C kF w' M ys.length ys ∧ ys.length ≤ capm ∧ Below w.heap.size w w'
theorem toldA {code line col cnt : Int} {T : ByteArray} {xs : List ByteArray} {ys : List Nat} {w w' : World} {j k b1 b2 : Nat} {B M : Option Addr} {capb capm : Nat} (hj : j = xs.length) (hk : k = ys.length) (h1 : w'.ownsRow b1 9 1 (.slice B j capb) j (encs Value.string xs)) (h2 : w'.ownsRow b2 120 1 (.slice M k capm) k (encs (Value.float .f64) ys)) (hb : Below w.heap.size w w') :
    ToldA code line col cnt T xs ys w (.returned (.tuple #[.agg #[.int .i64 code, .int .i64 line, .int .i64 col, .int .i64 cnt, .string T, .slice B j capb, .slice M k capm], .agg #[.int .i64 code, .int .i64 line, .int .i64 col, .int .i64 cnt, .string T, .slice B j capb, .slice M k capm]])) w' := by
  subst hj; subst hk
  have h3 := own_C h1
  have h4 := own_CF h2
  exact ⟨B, capb, M, capm, rfl, h3.1, h3.2, h4.1, h4.2, hb⟩
theorem cells14 {W : World} {g : Nat} {T : TypeId} {c0 c1 c2 c3 c4 c5 c6 : Value} (h : W.heap[g]? = some (.cells #[c0, c1, c2, c3, c4, c5, c6] T (0, 0))) :
    W.cell? ⟨g, 0, none⟩ = some c0 ∧ W.cell? ⟨g, 1, none⟩ = some c1 ∧ W.cell? ⟨g, 2, none⟩ = some c2 ∧ W.cell? ⟨g, 3, none⟩ = some c3 ∧ W.cell? ⟨g, 4, none⟩ = some c4 ∧ W.cell? ⟨g, 5, none⟩ = some c5 ∧ W.cell? ⟨g, 6, none⟩ = some c6 ∧ W.frozen? ⟨g, 0, none⟩ = false ∧ W.frozen? ⟨g, 1, none⟩ = false ∧ W.frozen? ⟨g, 2, none⟩ = false ∧ W.frozen? ⟨g, 3, none⟩ = false ∧ W.frozen? ⟨g, 4, none⟩ = false ∧ W.frozen? ⟨g, 5, none⟩ = false ∧ W.frozen? ⟨g, 6, none⟩ = false := by
  refine ⟨?_, ?_, ?_, ?_, ?_, ?_, ?_, ?_, ?_, ?_, ?_, ?_, ?_, ?_⟩ <;> first | exact (blk_cell h _).trans rfl | exact blk_frozen h _
theorem c14 {W : World} {g g2 : Nat} {T T2 : TypeId} {c0 c1 c2 c3 c4 c5 c6 d0 d1 d2 d3 d4 d5 d6 : Value} (h : W.heap[g]? = some (.cells #[c0, c1, c2, c3, c4, c5, c6] T (0, 0))) (h2 : W.heap[g2]? = some (.cells #[d0, d1, d2, d3, d4, d5, d6] T2 (0, 0))) :
    W.cell? ⟨g, 0, none⟩ = some c0 ∧ W.cell? ⟨g, 1, none⟩ = some c1 ∧ W.cell? ⟨g, 2, none⟩ = some c2 ∧ W.cell? ⟨g, 3, none⟩ = some c3 ∧ W.cell? ⟨g, 4, none⟩ = some c4 ∧ W.cell? ⟨g, 5, none⟩ = some c5 ∧ W.cell? ⟨g, 6, none⟩ = some c6 ∧ W.cell? ⟨g2, 0, none⟩ = some d0 ∧ W.cell? ⟨g2, 1, none⟩ = some d1 ∧ W.cell? ⟨g2, 2, none⟩ = some d2 ∧ W.cell? ⟨g2, 3, none⟩ = some d3 ∧ W.cell? ⟨g2, 4, none⟩ = some d4 ∧ W.cell? ⟨g2, 5, none⟩ = some d5 ∧ W.cell? ⟨g2, 6, none⟩ = some d6 := by
  refine ⟨?_, ?_, ?_, ?_, ?_, ?_, ?_, ?_, ?_, ?_, ?_, ?_, ?_, ?_⟩ <;> first | exact (blk_cell h _).trans rfl | exact (blk_cell h2 _).trans rfl
/-- .. and the document's reply's block. -/
structure RepSt5 (w W : World) (raw c d : Array Value) (g : Nat) : Prop extends RepSt w W raw c where
  d : W.heap[g]? = some (.cells d 48 (0, 0))
  far : w.heap.size + 1 + 1 + 1 < g
section
variable {w W W' : World} {raw c d : Array Value} {g : Nat}
theorem RepSt5.drew (h : RepSt5 w W raw c d g) : RepSt5 w W.drew raw c d g := ⟨h.toRepSt.drew, h.d, h.far⟩
theorem RepSt5.moved (h : RepSt5 w W raw c d g) (h1 : SameT 81 W W') (h2 : SameT 44 W W') (h3 : SameT 48 W W') (hb : Below w.heap.size w W') : RepSt5 w W' raw c d g :=
  ⟨⟨blk_same h.x h1, blk_same h.a h2, blk_same h.b h3, blk_same h.c h2, hb⟩, blk_same h.d h3, h.far⟩
theorem RepSt5.alloc (h : RepSt5 w W raw c d g) (o : Obj) : RepSt5 w (W.alloc o) raw c d g :=
  h.moved (SameT.below (below_alloc (Below.refl _ _) o)) (SameT.below (below_alloc (Below.refl _ _) o)) (SameT.below (below_alloc (Below.refl _ _) o)) (below_alloc h.lo o)
theorem RepSt5.grown (h : RepSt5 w W raw c d g) {e n : Nat} {v : Value} {xs : List Value} (hg : W.grownBy W' v.ownBlock) (ho : W.ownsRow w.heap.size e 1 v n xs) (h1 : 81 ≠ e) (h2 : 44 ≠ e) (h3 : 48 ≠ e) : RepSt5 w W' raw c d g :=
  h.moved (SameT.grown hg ho h1) (SameT.grown hg ho h2) (SameT.grown hg ho h3) (h.lo.grown hg h.lo.size (own_base ho))
theorem RepSt5.store (h : RepSt5 w W raw c d g) (i : Nat) (v : Value) : RepSt5 w (W.setCell ⟨w.heap.size + 1 + 1 + 1, i, none⟩ v) raw (c.setIfInBounds i v) d g := by
  have far : ∀ k, k ≠ w.heap.size + 1 + 1 + 1 → (W.setCell ⟨w.heap.size + 1 + 1 + 1, i, none⟩ v).heap[k]? = W.heap[k]? := fun k hk => Below.heap_setCell W ⟨w.heap.size + 1 + 1 + 1, i, none⟩ v k hk
  have hf := h.far
  exact ⟨⟨(far _ (by omega)).trans h.x, (far _ (by omega)).trans h.a, (far _ (by omega)).trans h.b, Blk.set_ (show Blk W _ 44 c from h.c) i v, below_set h.lo (by show w.heap.size ≤ w.heap.size + 1 + 1 + 1; omega)⟩, (far _ (by omega)).trans h.d, h.far⟩
theorem RepSt5.store5 (h : RepSt5 w W raw c d g) (i : Nat) (v : Value) : RepSt5 w (W.setCell ⟨g, i, none⟩ v) raw c (d.setIfInBounds i v) g := by
  have far : ∀ k, k ≠ g → (W.setCell ⟨g, i, none⟩ v).heap[k]? = W.heap[k]? := fun k hk => Below.heap_setCell W ⟨g, i, none⟩ v k hk
  have hf := h.far
  exact ⟨⟨(far _ (by omega)).trans h.x, (far _ (by omega)).trans h.a, (far _ (by omega)).trans h.b, (far _ (by omega)).trans h.c, below_set h.lo (by show w.heap.size ≤ g; omega)⟩, Blk.set_ (show Blk W g 48 d from h.d) i v, h.far⟩
theorem two_cells5 {r0 r1 r2 r3 r4 r5 r6 : Value} (h : RepSt5 w W #[r0, r1, r2, r3, r4, r5, r6] c d g) {a : Addr} {v : Value} (hc : w.cell? a = some v) : W.cell? ⟨w.heap.size, 5, none⟩ = some r5 ∧ W.cell? a = some v :=
  ⟨(blk_cell h.x 5).trans rfl, (h.lo.cell (World.block_lt_of_cell? w _ hc)).trans hc⟩
theorem two_cells6 {r0 r1 r2 r3 r4 r5 r6 : Value} (h : RepSt5 w W #[r0, r1, r2, r3, r4, r5, r6] c d g) {a : Addr} {v : Value} (hc : w.cell? a = some v) : W.cell? ⟨w.heap.size, 6, none⟩ = some r6 ∧ W.cell? a = some v :=
  ⟨(blk_cell h.x 6).trans rfl, (h.lo.cell (World.block_lt_of_cell? w _ hc)).trans hc⟩
end
theorem step_append_one {α : Type} {P : Program} {ops : Array Oper} {o : Oper} {a : Act} {W : World} {K : Act → World → Prop} {Q : Exit → Act → World → Prop} {E : Prop} (hgd : o.guard = none) (s x : Operand) {t e : TypeId} {z : Value} {bytes : Nat}
    (ho : o.op = .call { callee := .builtin .append, args := #[s, x], argTypes := #[t, t] }) (ht : P.underlying t = some (.slice e)) (hinfo : (P.info? e).map (fun i => (i.zero, i.size, i.bytes)) = some (some z, 1, bytes)) (hz : z.cells.size = 1) (enc : α → Value) (h1 : ∀ x, (enc x).oneCell' = true)
    (base : Nat) (B : Option Addr) (n c g : Nat) (xs : List α) (y : α) (hs : a.eval s = .slice B n c) (hx : a.eval x = .slice (some ⟨g, 0, none⟩) 1 1)
    (HO : W.ownsRow base e 1 (.slice B n c) n (encs enc xs)) (hg : W.heap[g]? = some (.cells #[enc y] e (0, 0))) (hbase : base ≤ W.heap.size) (hl : (n + 1) * bytes ≤ 140737488355328) (hn : n + 1 ≤ 140737488355328)
    (h : ∀ B1 c1 w1, w1.ownsRow base e 1 (.slice B1 (n + 1) c1) (n + 1) (encs enc (xs ++ [y])) → W.grownBy w1 (Value.slice B n c).ownBlock → K (a.put o.dst (.slice B1 (n + 1) c1)) w1) :
    if Region.wanted o (yielded ops a.tmps) = true then Oper.wp P o a W K Q else E := by
  have hw : Region.wanted o (yielded ops a.tmps) = true := by simp [Region.wanted, hgd]
  rw [if_pos hw]
  obtain ⟨i0, hi, hzz⟩ := Option.map_eq_some_iff.1 hinfo
  simp only [Prod.mk.injEq] at hzz
  obtain ⟨hz0, hz1, hz2⟩ := hzz
  obtain ⟨v1, w1, hr, hown, hgr, _, _⟩ := run_append_own_at (P := P) W base t o.type e i0 z 1 bytes ht hi hz0 hz1 hz2 hz (by decide) (.slice B n c) n (encs enc xs) HO ⟨g, 0, none⟩ 1 1 [enc y] rfl
    (World.news_of_block hg) (fun u hu => by simp only [List.mem_singleton] at hu; subst hu; exact h1 y) (by simp only [maxLen]; omega) hl hbase
  obtain ⟨g1, c1, rfl, _⟩ := hown.form (by omega)
  unfold Oper.wp execOp
  simp only [ho, resolve, invoke, builtin, Sem.run_bind, Sem.run_pure, Result.andThen_ok, List.map_toArray, List.map_cons, List.map_nil, hs, hx, hr]
  exact h _ c1 w1 (by simpa [encs] using hown) hgr
end Go.Proofs.Ytnajmemcdipknaa.PK
