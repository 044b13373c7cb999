/- Names and function values: IndexFunc and ContainsFunc over texts, with a test that changes nothing. Condition: none.
Names in plain words: what the program's Good and the document's Good tell. Condition: none.
command.Good, the walk. Condition: none.
command.Put, the walk. Condition: none. -/
import Derived.Test.YtnajmemcdipknaaHg
import Derived.Test.YtnajmemcdipknaaHh
import Derived.Test.YtnajmemcdipknaaHf
namespace Go.Proofs.Ytnajmemcdipknaa.PK
open Go.RowKit Go.Proofs.YtnajmemcdipknaaW.PrintWords Go.Proofs.YtnajmemcdipknaaW.PrintLast Go.Proofs.YtnajmemcdipknaaW.PrintMore
set_option linter.unusedVariables false
set_option linter.unusedSimpArgs false
set_option maxRecDepth 100000
/-- A call of a function that has a body enters it. -/
theorem enter_of {P : Program} {f : FuncId} {fn : Func} {c : Code} (hf : P.funcs[f]? = some fn) (hname : (fn.name == "runtime.NumGoroutine") = false) (hb : fn.body = some c) (args : Array Value) (w : World) : (callFunc f args).run P w = .ok (.enter f args) w := by
  have h1 : fn.name ≠ "runtime.NumGoroutine" := by simpa using hname
  simp [callFunc, hf, h1, hb]
theorem good1_calls (s : ByteArray) (w : World) : Calls Try.prog 47 #[.string s] w fun e w' => e = .returned (.bool (decide (16 < s.size))) ∧ w' = w := by
  go_enter Try.func47, Try.ntmps47
  have e : decide ((16 : Int) < (s.size : Int)) = decide (16 < s.size) := by rw [decide_eq_decide]; omega
  go_wp2
  go_ret
  rw [← e]
  exact ⟨rfl, rfl⟩
theorem index_calls (F : Nat) (he : ∀ args w, (callFunc F args).run Try.prog w = .ok (.enter F args) w) (p : ByteArray → Bool) (hf : ∀ s w, Calls Try.prog F #[.string s] w fun e w' => e = .returned (.bool (p s)) ∧ w' = w) (A : Option Addr) (c : Nat) (xs : List ByteArray) (w : World) (hr : Kd.C Kd.string w A xs.length xs) :
    Calls Try.prog 95 #[.slice A xs.length c, .func (.func F) #[] #[]] w fun e w' => (∃ r, e = .returned (.int .i64 r) ∧ decide (0 ≤ r) = xs.any p) ∧ w' = w := by
  have HR := Aside0.mk hr
  have HF := Aside0.mk hf
  clear hr hf
  go_enter Try.func95, Try.ntmps95
  go_wp2_with fail
  go_loopw [5, 8] (fun _ i wr => ∃ j : Nat, j ≤ xs.length ∧ i = .int .i64 j ∧ Aside0 (xs.any p = (xs.drop j).any p) ∧ wr = w) (fun _ i _ => xs.length - (intOf i).toNat)
  case atStart => exact ⟨0, Nat.zero_le _, rfl, ⟨rfl⟩, rfl⟩
  case round =>
    obtain ⟨j, hj, rfl, hany, rfl⟩ := hrel
    by_cases hjn : j < xs.length
    · have hmx := HR.out.2.1
      obtain ⟨ad, rfl, hcell⟩ := C_str HR.out j hjn
      have hd : decide ((j : Int) < (xs.length : Int)) = true := by simp; omega
      obtain ⟨x, hx⟩ : ∃ x, xs[j] = x := ⟨_, rfl⟩
      have hs : (xs.drop j).any p = (p x || (xs.drop (j + 1)).any p) := by rw [List.drop_eq_getElem_cons hjn, List.any_cons, hx]
      rw [hx] at hcell
      have HS := Aside0.mk hs
      clear hs hx
      cases hp : p x
      · have HP := Aside0.mk hp
        clear hp
        go_wp2_with fail
        refine (HF.out x _).mono ?_
        rintro e w2 ⟨rfl, rfl⟩
        rw [HP.out]
        go_wp2_with fail
        go_roundw
        case rel => exact ⟨j + 1, by omega, by go_num, ⟨by rw [hany.out, HS.out, HP.out]; rfl⟩, trivial⟩
        case measure => simp [intOf]; omega
      · have HP := Aside0.mk hp
        clear hp
        go_wp2_with fail
        refine (HF.out x _).mono ?_
        rintro e w2 ⟨rfl, rfl⟩
        rw [HP.out]
        go_wp2
        go_ret
        exact ⟨⟨_, rfl, by rw [hany.out, HS.out, HP.out]; simp⟩, rfl⟩
    · obtain rfl : xs.length = j := by omega
      have hd : decide ((xs.length : Int) < (xs.length : Int)) = false := by simp
      go_wp2
      go_ret
      refine ⟨⟨_, rfl, ?_⟩, rfl⟩
      rw [hany.out, List.drop_length]
      rfl
theorem good1_enter (args : Array Value) (w : World) : (callFunc 47 args).run Try.prog w = .ok (.enter 47 args) w := enter_of Try.func47 (by kernel_rfl) rfl _ _
theorem contains_calls (F : Nat) (he : ∀ args w, (callFunc F args).run Try.prog w = .ok (.enter F args) w) (p : ByteArray → Bool) (hf : ∀ s w, Calls Try.prog F #[.string s] w fun e w' => e = .returned (.bool (p s)) ∧ w' = w) (A : Option Addr) (c : Nat) (xs : List ByteArray) (w : World) (hr : Kd.C Kd.string w A xs.length xs) :
    Calls Try.prog 46 #[.slice A xs.length c, .func (.func F) #[] #[]] w fun e w' => e = .returned (.bool (xs.any p)) ∧ w' = w := by
  have HR := Aside0.mk hr
  have HF := Aside0.mk hf
  clear hr hf
  go_enter Try.func46, Try.ntmps46
  go_wp2_with fail
  refine (index_calls F he p HF.out A c xs w HR.out).mono ?_
  rintro e w2 ⟨⟨r, rfl, hr⟩, rfl⟩
  have HQ := Aside0.mk hr
  clear hr
  go_wp2
  go_ret
  exact ⟨by first | (rw [← HQ.out]; done) | (rw [← HQ.out]; rfl) | (simp [← HQ.out]), rfl⟩
end Go.Proofs.Ytnajmemcdipknaa.PK
namespace Go.Proofs.Ytnajmemcdipknaa.PK
open Go.RowKit Go.Proofs.YtnajmemcdipknaaW.PrintWords Go.Proofs.YtnajmemcdipknaaW.PrintLast Go.Proofs.YtnajmemcdipknaaW.PrintMore
set_option linter.unusedVariables false
set_option linter.unusedSimpArgs false
set_option maxRecDepth 100000
def letB (c : Int) : Bool := decide ((65 ≤ c ∧ c ≤ 90) ∨ (97 ≤ c ∧ c ≤ 122))
def inB (c : Int) : Bool := decide ((65 ≤ c ∧ c ≤ 90) ∨ (97 ≤ c ∧ c ≤ 122) ∨ (48 ≤ c ∧ c ≤ 57) ∨ c = 95 ∨ c = 45)
def nameOk (s : ByteArray) : Bool := decide (0 < s.size) && decide (s.size ≤ 32) && letB (bt s 0) && (bytesOf s).all inB
theorem letter_eq (c : Int) : PC.lex_letter.f c = some (letB c) := by
  unfold PC.lex_letter.f letB
  repeat' split
  all_goals (rw [Option.some.injEq, Bool.eq_iff_iff]; simp only [decide_eq_true_eq, beq_iff_eq, true_iff, Bool.false_eq_true, false_iff]; omega)
theorem letter4_eq (c : Int) : PC.primerref04_letter.f c = some (letB c) := by
  unfold PC.primerref04_letter.f letB
  repeat' split
  all_goals (rw [Option.some.injEq, Bool.eq_iff_iff]; simp only [decide_eq_true_eq, beq_iff_eq, true_iff, Bool.false_eq_true, false_iff]; omega)
theorem inName_eq (c : Int) : PC.lex_inName.f c = some (inB c) := by
  unfold PC.lex_inName.f
  rw [letter_eq, Option.bind_some]
  unfold letB inB
  repeat' split
  all_goals (simp only [decide_eq_true_eq] at *; rw [Option.some.injEq, Bool.eq_iff_iff]; simp only [decide_eq_true_eq, beq_iff_eq, true_iff, Bool.false_eq_true, false_iff]; omega)
theorem rest4_eq (c : Int) : PC.primerref04_rest.f c = some (inB c) := by
  unfold PC.primerref04_rest.f
  rw [letter4_eq, Option.bind_some]
  unfold letB inB
  repeat' split
  all_goals (simp only [decide_eq_true_eq] at *; rw [Option.some.injEq, Bool.eq_iff_iff]; simp only [decide_eq_true_eq, beq_iff_eq, true_iff, Bool.false_eq_true, false_iff]; omega)
theorem drop_bt (s : ByteArray) (i : Nat) (h : i < s.size) : (bytesOf s).drop i = bt s (i : Int) :: (bytesOf s).drop (i + 1) := by
  have hl : i < (bytesOf s).length := by rw [bytesOf_len]; exact h
  rw [List.drop_eq_getElem_cons hl, bt_nat, List.getD_eq_getElem?_getD, List.getElem?_eq_getElem hl]
  rfl
theorem lex_l0 (s : ByteArray) (hs : s.size ≤ 9223372036854775807) (r : Nat) : ∀ (k : Nat) (i : Nat), i + r = s.size → r < k → PC.lex_Good.l0 k s s.size i = some (((bytesOf s).drop i).all inB) := by
  induction r with
  | zero =>
    intro k i h1 hk
    obtain ⟨k, rfl⟩ : ∃ j, k = j + 1 := ⟨k - 1, by omega⟩
    simp only [PC.lex_Good.l0]
    rw [if_neg (by omega), List.drop_of_length_le (by rw [bytesOf_len]; omega)]
    rfl
  | succ r ih =>
    intro k i h1 hk
    obtain ⟨k, rfl⟩ : ∃ j, k = j + 1 := ⟨k - 1, by omega⟩
    simp only [PC.lex_Good.l0]
    rw [if_pos (by omega), if_pos (by omega), if_pos (by omega), inName_eq, Option.bind_some, drop_bt s i (by omega), List.all_cons, w64 _ (by omega) (by omega)]
    cases inB (bt s i)
    · simp
    · have := ih k (i + 1) (by omega) (by omega)
      rw [show ((i : Int) + 1) = ((i + 1 : Nat) : Int) from rfl, if_pos rfl, this, Bool.true_and]
theorem lexGood_eq (s : ByteArray) (hs : s.size ≤ 9223372036854775807) (k : Nat) (hk : 40 ≤ k) : PC.lex_Good.f k s = some (nameOk s) := by
  obtain ⟨k, rfl⟩ : ∃ j, k = j + 1 := ⟨k - 1, by omega⟩
  unfold PC.lex_Good.f nameOk
  by_cases h0 : s.size = 0
  · rw [if_pos ((toList_nil_iff s).mpr h0)]
    simp [PC.lex_Good.j0, h0]
  · rw [if_neg (fun h => h0 ((toList_nil_iff s).mp h))]
    by_cases h1 : 32 < s.size
    · rw [if_pos (by omega)]
      have : decide (s.size ≤ 32) = false := by simp; omega
      simp [PC.lex_Good.j0, this]
    · rw [if_neg (by omega), if_pos (by omega), letter_eq, Option.bind_some]
      have e1 : decide (0 < s.size) = true := by simp; omega
      have e2 : decide (s.size ≤ 32) = true := by simp; omega
      rw [e1, e2]
      cases hl : letB (bt s 0)
      · simp [PC.lex_Good.j0]
      · have := lex_l0 s hs s.size k 0 (by omega) (by omega)
        simp only [PC.lex_Good.j0, Bool.not_true, Bool.false_eq_true, if_false]
        rw [show ((0 : Nat) : Int) = 0 from rfl, List.drop_zero] at this
        rw [this]
        simp
theorem ref4_l0 (s : ByteArray) (hs : s.size ≤ 9223372036854775807) (r : Nat) : ∀ (k : Nat) (i : Nat), i + r = s.size → r < k → PC.primerref04_Good.l0 k s i = some (decide (0 < s.size) && decide (s.size ≤ 32) && (decide (0 < i) || s.size == 0 || letB (bt s 0)) && ((bytesOf s).drop i).all inB) := by
  induction r with
  | zero =>
    intro k i h1 hk
    obtain ⟨k, rfl⟩ : ∃ j, k = j + 1 := ⟨k - 1, by omega⟩
    simp only [PC.primerref04_Good.l0]
    rw [if_neg (by omega), List.drop_of_length_le (by rw [bytesOf_len]; omega)]
    by_cases h0 : s.size = 0
    · rw [if_neg (by omega)]
      simp [h0]
    · rw [if_pos (by omega)]
      congr 1
      have : decide (0 < i) = true := by simp; omega
      rw [this, Bool.eq_iff_iff]
      simp
      omega
  | succ r ih =>
    intro k i h1 hk
    obtain ⟨k, rfl⟩ : ∃ j, k = j + 1 := ⟨k - 1, by omega⟩
    have hn := ih k (i + 1) (by omega) (by omega)
    rw [show ((i + 1 : Nat) : Int) = (i : Int) + 1 from rfl] at hn
    have e0 : (s.size == 0) = false := by rw [beq_eq_false_iff_ne]; omega
    have e1 : decide (0 < i + 1) = true := by simp
    rw [e0, e1] at hn
    simp only [PC.primerref04_Good.l0]
    rw [if_pos (by omega), drop_bt s i (by omega), List.all_cons, w64 _ (by omega) (by omega), e0, rest4_eq, Option.bind_some]
    by_cases hi : i = 0
    · subst hi
      rw [if_pos (by omega), if_pos (by omega), letter4_eq, Option.bind_some]
      cases hl : letB (bt s 0)
      · simp [hl]
      · rw [if_pos rfl]
        cases hb : inB (bt s ((0 : Nat) : Int))
        · simp [hb]
        · rw [if_pos rfl, hn]
          simp [hl, hb]
    · rw [if_neg (by omega), if_pos (by omega)]
      have e2 : decide (0 < i) = true := by simp; omega
      cases hb : inB (bt s (i : Int))
      · simp [hb]
      · rw [if_pos rfl, hn]
        simp [hb, e2]
theorem ref4Good_eq (s : ByteArray) (hs : s.size ≤ 9223372036854775807) (k : Nat) (hk : s.size < k) : PC.primerref04_Good.f k s = some (nameOk s) := by
  unfold PC.primerref04_Good.f
  have := ref4_l0 s hs s.size k 0 (by omega) hk
  rw [show ((0 : Nat) : Int) = 0 from rfl] at this
  rw [this, List.drop_zero]
  unfold nameOk
  by_cases h0 : s.size = 0
  · simp [h0]
  · have e0 : (s.size == 0) = false := by rw [beq_eq_false_iff_ne]; omega
    simp [e0]
theorem cname_eq (s : ByteArray) (hs : s.size ≤ 9223372036854775807) (k : Nat) (hk : 40 ≤ k) : PC.command_name.f k s = some (decide (s.size = 0) || nameOk s) := by
  unfold PC.command_name.f
  by_cases h0 : s.size = 0
  · rw [if_pos ((toList_nil_iff s).mpr h0)]
    simp [h0]
  · rw [if_neg (fun h => h0 ((toList_nil_iff s).mp h)), lexGood_eq s hs k hk]
    simp [h0]
end Go.Proofs.Ytnajmemcdipknaa.PK
namespace Go.Proofs.Ytnajmemcdipknaa.PK
open Go.RowKit Go.Proofs.YtnajmemcdipknaaW.PrintWords Go.Proofs.YtnajmemcdipknaaW.PrintLast Go.Proofs.YtnajmemcdipknaaW.PrintMore
open Go.ChangeShapes Go.WideShapes
set_option linter.unusedVariables false
set_option linter.unusedSimpArgs false
set_option maxRecDepth 100000
def goodC (k : Int) (who nm ot tx : ByteArray) (wd : List ByteArray) (a b c d : Int) : Bool :=
  decide (1 ≤ k) && decide (k ≤ 18) && nameOk who && (decide (nm.size = 0) || nameOk nm) && (decide (ot.size = 0) || nameOk ot) && decide (tx.size ≤ 65536) && decide (wd.length ≤ 64) && (!(wd.any fun s => decide (16 < s.size))) && fitsN a && fitsN b && fitsN c && fitsN d
set_option maxHeartbeats 6400000 in
theorem cGood_calls (k : Int) (who nm ot tx : ByteArray) (A : Option Addr) (cap : Nat) (wd : List ByteArray) (a b c d : Int) (w : World) (hs1 : who.size ≤ 9223372036854775807) (hs2 : nm.size ≤ 9223372036854775807) (hs3 : ot.size ≤ 9223372036854775807) (hr : Kd.C Kd.string w A wd.length wd) (hc : wd.length ≤ cap) :
    Calls Try.prog 15 #[.agg #[.int .i64 k, .string who, .string nm, .string ot, .string tx, .slice A wd.length cap, .int .i64 a, .int .i64 b, .int .i64 c, .int .i64 d]] w fun e w' => e = .returned (.bool (goodC k who nm ot tx wd a b c d)) ∧ Below w.heap.size w w' := by
  have hu := Try.underlying28
  have HR := Aside0.mk hr
  have HC := Aside0.mk hc
  clear hr hc
  have HB := Aside0.mk (Below.refl w.heap.size w)
  by_cases g1 : 1 ≤ k
  rotate_left
  · have e1a : decide (k < 1) = true := by simp; omega
    have gf : decide (1 ≤ k) = false := by simp; omega
    have GOOD : Aside0 (goodC k who nm ot tx wd a b c d = false) := ⟨by simp only [goodC, gf, Bool.and_false, Bool.false_and]⟩
    clear gf
    clear g1
    go_enter Try.func15, Try.ntmps15
    go_wp2_with (first
      | (go_at_call 44; (with_reducible refine (PC.lex_Good.calls 40 who _ _ (lexGood_eq who hs1 40 (by omega))).mono ?_); rintro e w' ⟨rfl, ⟨nd, rfl⟩⟩; rw [H3.out])
      | (go_at_call 45; first
          | ((with_reducible refine (PC.command_name.calls 40 nm _ _ (cname_eq nm hs2 40 (by omega))).mono ?_); rintro e w' ⟨rfl, ⟨nd, rfl⟩⟩; rw [H4.out])
          | ((with_reducible refine (PC.command_name.calls 40 ot _ _ (cname_eq ot hs3 40 (by omega))).mono ?_); rintro e w' ⟨rfl, ⟨nd, rfl⟩⟩; rw [H5.out])))
    go_ret
    exact ⟨by rw [GOOD.out]; rfl, by repeat (first | (with_reducible first | exact HB.out | apply below_alloc | apply pw_below_drewN | apply below_drew1) | exact HB.out)⟩
  have e1a : decide (k < 1) = false := by simp; omega
  by_cases g2 : k ≤ 18
  rotate_left
  · have e2a : decide (18 < k) = true := by simp; omega
    have gf : decide (k ≤ 18) = false := by simp; omega
    have GOOD : Aside0 (goodC k who nm ot tx wd a b c d = false) := ⟨by simp only [goodC, gf, Bool.and_false, Bool.false_and]⟩
    clear gf
    clear g1 g2
    go_enter Try.func15, Try.ntmps15
    go_wp2_with (first
      | (go_at_call 44; (with_reducible refine (PC.lex_Good.calls 40 who _ _ (lexGood_eq who hs1 40 (by omega))).mono ?_); rintro e w' ⟨rfl, ⟨nd, rfl⟩⟩; rw [H3.out])
      | (go_at_call 45; first
          | ((with_reducible refine (PC.command_name.calls 40 nm _ _ (cname_eq nm hs2 40 (by omega))).mono ?_); rintro e w' ⟨rfl, ⟨nd, rfl⟩⟩; rw [H4.out])
          | ((with_reducible refine (PC.command_name.calls 40 ot _ _ (cname_eq ot hs3 40 (by omega))).mono ?_); rintro e w' ⟨rfl, ⟨nd, rfl⟩⟩; rw [H5.out])))
    go_ret
    exact ⟨by rw [GOOD.out]; rfl, by repeat (first | (with_reducible first | exact HB.out | apply below_alloc | apply pw_below_drewN | apply below_drew1) | exact HB.out)⟩
  have e2a : decide (18 < k) = false := by simp; omega
  by_cases g3 : nameOk who = true
  rotate_left
  · have H3 := Aside0.mk (Bool.eq_false_iff.mpr g3)
    have gf := H3.out
    have GOOD : Aside0 (goodC k who nm ot tx wd a b c d = false) := ⟨by simp only [goodC, gf, Bool.and_false, Bool.false_and]⟩
    clear gf
    clear g1 g2 g3
    go_enter Try.func15, Try.ntmps15
    go_wp2_with (first
      | (go_at_call 44; (with_reducible refine (PC.lex_Good.calls 40 who _ _ (lexGood_eq who hs1 40 (by omega))).mono ?_); rintro e w' ⟨rfl, ⟨nd, rfl⟩⟩; rw [H3.out])
      | (go_at_call 45; first
          | ((with_reducible refine (PC.command_name.calls 40 nm _ _ (cname_eq nm hs2 40 (by omega))).mono ?_); rintro e w' ⟨rfl, ⟨nd, rfl⟩⟩; rw [H4.out])
          | ((with_reducible refine (PC.command_name.calls 40 ot _ _ (cname_eq ot hs3 40 (by omega))).mono ?_); rintro e w' ⟨rfl, ⟨nd, rfl⟩⟩; rw [H5.out])))
    go_ret
    exact ⟨by rw [GOOD.out]; rfl, by repeat (first | (with_reducible first | exact HB.out | apply below_alloc | apply pw_below_drewN | apply below_drew1) | exact HB.out)⟩
  have H3 := Aside0.mk g3
  by_cases g4 : (decide (nm.size = 0) || nameOk nm) = true
  rotate_left
  · have H4 := Aside0.mk (Bool.eq_false_iff.mpr g4)
    have gf := H4.out
    have GOOD : Aside0 (goodC k who nm ot tx wd a b c d = false) := ⟨by simp only [goodC, gf, Bool.and_false, Bool.false_and]⟩
    clear gf
    clear g1 g2 g3 g4
    go_enter Try.func15, Try.ntmps15
    go_wp2_with (first
      | (go_at_call 44; (with_reducible refine (PC.lex_Good.calls 40 who _ _ (lexGood_eq who hs1 40 (by omega))).mono ?_); rintro e w' ⟨rfl, ⟨nd, rfl⟩⟩; rw [H3.out])
      | (go_at_call 45; first
          | ((with_reducible refine (PC.command_name.calls 40 nm _ _ (cname_eq nm hs2 40 (by omega))).mono ?_); rintro e w' ⟨rfl, ⟨nd, rfl⟩⟩; rw [H4.out])
          | ((with_reducible refine (PC.command_name.calls 40 ot _ _ (cname_eq ot hs3 40 (by omega))).mono ?_); rintro e w' ⟨rfl, ⟨nd, rfl⟩⟩; rw [H5.out])))
    go_ret
    exact ⟨by rw [GOOD.out]; rfl, by repeat (first | (with_reducible first | exact HB.out | apply below_alloc | apply pw_below_drewN | apply below_drew1) | exact HB.out)⟩
  have H4 := Aside0.mk g4
  by_cases g5 : (decide (ot.size = 0) || nameOk ot) = true
  rotate_left
  · have H5 := Aside0.mk (Bool.eq_false_iff.mpr g5)
    have gf := H5.out
    have GOOD : Aside0 (goodC k who nm ot tx wd a b c d = false) := ⟨by simp only [goodC, gf, Bool.and_false, Bool.false_and]⟩
    clear gf
    clear g1 g2 g3 g4 g5
    go_enter Try.func15, Try.ntmps15
    go_wp2_with (first
      | (go_at_call 44; (with_reducible refine (PC.lex_Good.calls 40 who _ _ (lexGood_eq who hs1 40 (by omega))).mono ?_); rintro e w' ⟨rfl, ⟨nd, rfl⟩⟩; rw [H3.out])
      | (go_at_call 45; first
          | ((with_reducible refine (PC.command_name.calls 40 nm _ _ (cname_eq nm hs2 40 (by omega))).mono ?_); rintro e w' ⟨rfl, ⟨nd, rfl⟩⟩; rw [H4.out])
          | ((with_reducible refine (PC.command_name.calls 40 ot _ _ (cname_eq ot hs3 40 (by omega))).mono ?_); rintro e w' ⟨rfl, ⟨nd, rfl⟩⟩; rw [H5.out])))
    go_ret
    exact ⟨by rw [GOOD.out]; rfl, by repeat (first | (with_reducible first | exact HB.out | apply below_alloc | apply pw_below_drewN | apply below_drew1) | exact HB.out)⟩
  have H5 := Aside0.mk g5
  by_cases g6 : tx.size ≤ 65536
  rotate_left
  · have e6a : decide ((65536 : Int) < (tx.size : Int)) = true := by simp; omega
    have e6b : decide (65536 < tx.size) = true := by simp; omega
    have gf : decide (tx.size ≤ 65536) = false := by simp; omega
    have GOOD : Aside0 (goodC k who nm ot tx wd a b c d = false) := ⟨by simp only [goodC, gf, Bool.and_false, Bool.false_and]⟩
    clear gf
    clear g1 g2 g3 g4 g5 g6
    go_enter Try.func15, Try.ntmps15
    go_wp2_with (first
      | (go_at_call 44; (with_reducible refine (PC.lex_Good.calls 40 who _ _ (lexGood_eq who hs1 40 (by omega))).mono ?_); rintro e w' ⟨rfl, ⟨nd, rfl⟩⟩; rw [H3.out])
      | (go_at_call 45; first
          | ((with_reducible refine (PC.command_name.calls 40 nm _ _ (cname_eq nm hs2 40 (by omega))).mono ?_); rintro e w' ⟨rfl, ⟨nd, rfl⟩⟩; rw [H4.out])
          | ((with_reducible refine (PC.command_name.calls 40 ot _ _ (cname_eq ot hs3 40 (by omega))).mono ?_); rintro e w' ⟨rfl, ⟨nd, rfl⟩⟩; rw [H5.out])))
    go_ret
    exact ⟨by rw [GOOD.out]; rfl, by repeat (first | (with_reducible first | exact HB.out | apply below_alloc | apply pw_below_drewN | apply below_drew1) | exact HB.out)⟩
  have e6a : decide ((65536 : Int) < (tx.size : Int)) = false := by simp; omega
  have e6b : decide (65536 < tx.size) = false := by simp; omega
  by_cases g7 : wd.length ≤ 64
  rotate_left
  · have e7a : decide ((64 : Int) < (wd.length : Int)) = true := by simp; omega
    have e7b : decide (64 < wd.length) = true := by simp; omega
    have gf : decide (wd.length ≤ 64) = false := by simp; omega
    have GOOD : Aside0 (goodC k who nm ot tx wd a b c d = false) := ⟨by simp only [goodC, gf, Bool.and_false, Bool.false_and]⟩
    clear gf
    clear g1 g2 g3 g4 g5 g6 g7
    go_enter Try.func15, Try.ntmps15
    go_wp2_with (first
      | (go_at_call 44; (with_reducible refine (PC.lex_Good.calls 40 who _ _ (lexGood_eq who hs1 40 (by omega))).mono ?_); rintro e w' ⟨rfl, ⟨nd, rfl⟩⟩; rw [H3.out])
      | (go_at_call 45; first
          | ((with_reducible refine (PC.command_name.calls 40 nm _ _ (cname_eq nm hs2 40 (by omega))).mono ?_); rintro e w' ⟨rfl, ⟨nd, rfl⟩⟩; rw [H4.out])
          | ((with_reducible refine (PC.command_name.calls 40 ot _ _ (cname_eq ot hs3 40 (by omega))).mono ?_); rintro e w' ⟨rfl, ⟨nd, rfl⟩⟩; rw [H5.out])))
    go_ret
    exact ⟨by rw [GOOD.out]; rfl, by repeat (first | (with_reducible first | exact HB.out | apply below_alloc | apply pw_below_drewN | apply below_drew1) | exact HB.out)⟩
  have e7a : decide ((64 : Int) < (wd.length : Int)) = false := by simp; omega
  have e7b : decide (64 < wd.length) = false := by simp; omega
  obtain ⟨wb, hwb⟩ : ∃ wb, (wd.any fun s => decide (16 < s.size)) = wb := ⟨_, rfl⟩
  have HW := Aside0.mk hwb
  cases wb
  rotate_left
  · have GOOD : Aside0 (goodC k who nm ot tx wd a b c d = false) := ⟨by simp only [goodC, hwb, Bool.not_true, Bool.and_false, Bool.false_and]⟩
    clear hwb g1 g2 g3 g4 g5 g6 g7
    go_enter Try.func15, Try.ntmps15
    go_wp2_with (first
      | (go_at_call 46; refine (contains_calls 47 good1_enter (fun s => decide (16 < s.size)) good1_calls A cap wd _ (Kd.C_below HR.out (by repeat (first | (with_reducible first | exact HB.out | apply below_alloc | apply pw_below_drewN | apply below_drew1) | exact HB.out)))).mono ?_; rintro e w' ⟨rfl, rfl⟩; rw [HW.out])
      | (first
  | (go_at_call 44; (with_reducible refine (PC.lex_Good.calls 40 who _ _ (lexGood_eq who hs1 40 (by omega))).mono ?_); rintro e w' ⟨rfl, ⟨nd, rfl⟩⟩; rw [H3.out])
  | (go_at_call 45; first
      | ((with_reducible refine (PC.command_name.calls 40 nm _ _ (cname_eq nm hs2 40 (by omega))).mono ?_); rintro e w' ⟨rfl, ⟨nd, rfl⟩⟩; rw [H4.out])
      | ((with_reducible refine (PC.command_name.calls 40 ot _ _ (cname_eq ot hs3 40 (by omega))).mono ?_); rintro e w' ⟨rfl, ⟨nd, rfl⟩⟩; rw [H5.out]))))
    go_ret
    exact ⟨by rw [GOOD.out]; rfl, by repeat (first | (with_reducible first | exact HB.out | apply below_alloc | apply pw_below_drewN | apply below_drew1) | exact HB.out)⟩
  have GOOD : Aside0 (goodC k who nm ot tx wd a b c d = (fitsN a && fitsN b && fitsN c && fitsN d)) := ⟨by simp only [goodC, hwb, g1, g2, g3, g4, g5, g6, g7, decide_true, Bool.true_and, Bool.not_false]⟩
  clear hwb g1 g2 g3 g4 g5 g6 g7
  go_enter Try.func15, Try.ntmps15
  go_wp2_with (first
    | (go_at_call 46; refine (contains_calls 47 good1_enter (fun s => decide (16 < s.size)) good1_calls A cap wd _ (Kd.C_below HR.out (by repeat (first | (with_reducible first | exact HB.out | apply below_alloc | apply pw_below_drewN | apply below_drew1) | exact HB.out)))).mono ?_; rintro e w' ⟨rfl, rfl⟩; rw [HW.out])
    | (first
  | (go_at_call 44; (with_reducible refine (PC.lex_Good.calls 40 who _ _ (lexGood_eq who hs1 40 (by omega))).mono ?_); rintro e w' ⟨rfl, ⟨nd, rfl⟩⟩; rw [H3.out])
  | (go_at_call 45; first
      | ((with_reducible refine (PC.command_name.calls 40 nm _ _ (cname_eq nm hs2 40 (by omega))).mono ?_); rintro e w' ⟨rfl, ⟨nd, rfl⟩⟩; rw [H4.out])
      | ((with_reducible refine (PC.command_name.calls 40 ot _ _ (cname_eq ot hs3 40 (by omega))).mono ?_); rintro e w' ⟨rfl, ⟨nd, rfl⟩⟩; rw [H5.out]))))
  go_loopw [4, 48] (fun _ i wr => ∃ j : Nat, j ≤ 4 ∧ i = .int .i64 j ∧ Aside0 ((0 < j → fitsN a = true) ∧ (1 < j → fitsN b = true) ∧ (2 < j → fitsN c = true) ∧ (3 < j → fitsN d = true)) ∧ Aside0 (Below w.heap.size w wr)) (fun _ i _ => 4 - (intOf i).toNat)
  case atStart => exact ⟨0, Nat.zero_le _, rfl, ⟨fun h => absurd h (by omega), fun h => absurd h (by omega), fun h => absurd h (by omega), fun h => absurd h (by omega)⟩, ⟨by repeat (first | (with_reducible first | exact HB.out | apply below_alloc | apply pw_below_drewN | apply below_drew1) | exact HB.out)⟩⟩
  case round =>
    have ix0 : ∀ w : World, (Instr.index 23 (.agg #[.int .i64 a, .int .i64 b, .int .i64 c, .int .i64 d]) (.int .i64 0)).run Try.prog w = .ok (.int .i64 a) w := fun _ => by kernel_rfl
    have ix1 : ∀ w : World, (Instr.index 23 (.agg #[.int .i64 a, .int .i64 b, .int .i64 c, .int .i64 d]) (.int .i64 1)).run Try.prog w = .ok (.int .i64 b) w := fun _ => by kernel_rfl
    have ix2 : ∀ w : World, (Instr.index 23 (.agg #[.int .i64 a, .int .i64 b, .int .i64 c, .int .i64 d]) (.int .i64 2)).run Try.prog w = .ok (.int .i64 c) w := fun _ => by kernel_rfl
    have ix3 : ∀ w : World, (Instr.index 23 (.agg #[.int .i64 a, .int .i64 b, .int .i64 c, .int .i64 d]) (.int .i64 3)).run Try.prog w = .ok (.int .i64 d) w := fun _ => by kernel_rfl
    obtain ⟨j, hj, rfl, HF, HB2⟩ := hrel
    rcases (show j = 0 ∨ j = 1 ∨ j = 2 ∨ j = 3 ∨ j = 4 from by omega) with rfl | rfl | rfl | rfl | rfl
    · by_cases hlo : -9007199254740992 ≤ a
      · have hlo' : decide (a < -9007199254740992) = false := by simp; omega
        by_cases hhi : a ≤ 9007199254740992
        · have hhi' : decide (9007199254740992 < a) = false := by simp; omega
          go_wp2_with fail
          go_roundw
          case rel => exact ⟨1, by omega, rfl, ⟨fun _ => fits_in hlo hhi, fun h => absurd h (by omega), fun h => absurd h (by omega), fun h => absurd h (by omega)⟩, HB2⟩
          case measure => simp [intOf]
        · have hhi' : decide (9007199254740992 < a) = true := by simp; omega
          go_wp2
          go_ret
          exact ⟨by rw [GOOD.out, fits_hi (n := a) (by omega)]; simp, HB2.out⟩
      · have hlo' : decide (a < -9007199254740992) = true := by simp; omega
        go_wp2
        go_ret
        exact ⟨by rw [GOOD.out, fits_lo (n := a) (by omega)]; simp, HB2.out⟩
    · by_cases hlo : -9007199254740992 ≤ b
      · have hlo' : decide (b < -9007199254740992) = false := by simp; omega
        by_cases hhi : b ≤ 9007199254740992
        · have hhi' : decide (9007199254740992 < b) = false := by simp; omega
          go_wp2_with fail
          go_roundw
          case rel => exact ⟨2, by omega, rfl, ⟨fun _ => HF.out.1 (by omega), fun _ => fits_in hlo hhi, fun h => absurd h (by omega), fun h => absurd h (by omega)⟩, HB2⟩
          case measure => simp [intOf]
        · have hhi' : decide (9007199254740992 < b) = true := by simp; omega
          go_wp2
          go_ret
          exact ⟨by rw [GOOD.out, HF.out.1 (by omega), fits_hi (n := b) (by omega)]; simp, HB2.out⟩
      · have hlo' : decide (b < -9007199254740992) = true := by simp; omega
        go_wp2
        go_ret
        exact ⟨by rw [GOOD.out, HF.out.1 (by omega), fits_lo (n := b) (by omega)]; simp, HB2.out⟩
    · by_cases hlo : -9007199254740992 ≤ c
      · have hlo' : decide (c < -9007199254740992) = false := by simp; omega
        by_cases hhi : c ≤ 9007199254740992
        · have hhi' : decide (9007199254740992 < c) = false := by simp; omega
          go_wp2_with fail
          go_roundw
          case rel => exact ⟨3, by omega, rfl, ⟨fun _ => HF.out.1 (by omega), fun _ => HF.out.2.1 (by omega), fun _ => fits_in hlo hhi, fun h => absurd h (by omega)⟩, HB2⟩
          case measure => simp [intOf]
        · have hhi' : decide (9007199254740992 < c) = true := by simp; omega
          go_wp2
          go_ret
          exact ⟨by rw [GOOD.out, HF.out.1 (by omega), HF.out.2.1 (by omega), fits_hi (n := c) (by omega)]; simp, HB2.out⟩
      · have hlo' : decide (c < -9007199254740992) = true := by simp; omega
        go_wp2
        go_ret
        exact ⟨by rw [GOOD.out, HF.out.1 (by omega), HF.out.2.1 (by omega), fits_lo (n := c) (by omega)]; simp, HB2.out⟩
    · by_cases hlo : -9007199254740992 ≤ d
      · have hlo' : decide (d < -9007199254740992) = false := by simp; omega
        by_cases hhi : d ≤ 9007199254740992
        · have hhi' : decide (9007199254740992 < d) = false := by simp; omega
          go_wp2_with fail
          go_roundw
          case rel => exact ⟨4, by omega, rfl, ⟨fun _ => HF.out.1 (by omega), fun _ => HF.out.2.1 (by omega), fun _ => HF.out.2.2.1 (by omega), fun _ => fits_in hlo hhi⟩, HB2⟩
          case measure => simp [intOf]
        · have hhi' : decide (9007199254740992 < d) = true := by simp; omega
          go_wp2
          go_ret
          exact ⟨by rw [GOOD.out, HF.out.1 (by omega), HF.out.2.1 (by omega), HF.out.2.2.1 (by omega), fits_hi (n := d) (by omega)]; simp, HB2.out⟩
      · have hlo' : decide (d < -9007199254740992) = true := by simp; omega
        go_wp2
        go_ret
        exact ⟨by rw [GOOD.out, HF.out.1 (by omega), HF.out.2.1 (by omega), HF.out.2.2.1 (by omega), fits_lo (n := d) (by omega)]; simp, HB2.out⟩
    · go_wp2
      go_ret
      exact ⟨by rw [GOOD.out, HF.out.1 (by omega), HF.out.2.1 (by omega), HF.out.2.2.1 (by omega), HF.out.2.2.2 (by omega)]; rfl, HB2.out⟩
end Go.Proofs.Ytnajmemcdipknaa.PK
namespace Go.Proofs.Ytnajmemcdipknaa.PK
open Go.RowKit Go.Proofs.YtnajmemcdipknaaW.PrintWords Go.Proofs.YtnajmemcdipknaaW.PrintLast Go.Proofs.YtnajmemcdipknaaW.PrintMore
open Go.ChangeShapes Go.WideShapes
set_option linter.unusedVariables false
set_option linter.unusedSimpArgs false
set_option maxRecDepth 100000
def cmdL (k : Int) (who nm ot tx : ByteArray) (wd : List ByteArray) (a b c d : Int) : List Int :=
  putL k ++ textL who ++ textL nm ++ textL ot ++ textL tx ++ textsL wd ++ putL a ++ putL b ++ putL c ++ putL d
def putC (k : Int) (who nm ot tx : ByteArray) (wd : List ByteArray) (a b c d : Int) : ByteArray := if goodC k who nm ot tx wd a b c d then strOfNums (cmdL k who nm ot tx wd a b c d) else ⟨#[]⟩
theorem good_facts {k : Int} {who nm ot tx : ByteArray} {wd : List ByteArray} {a b c d : Int} (h : goodC k who nm ot tx wd a b c d = true) :
    (1 ≤ k ∧ k ≤ 18) ∧ who.size ≤ 32 ∧ nm.size ≤ 32 ∧ ot.size ≤ 32 ∧ tx.size ≤ 65536 ∧ wd.length ≤ 64 ∧ (∀ s ∈ wd, s.size ≤ 16) ∧ fitsN a = true ∧ fitsN b = true ∧ fitsN c = true ∧ fitsN d = true := by
  unfold goodC nameOk at h
  simp only [Bool.and_eq_true, Bool.or_eq_true, decide_eq_true_eq, Bool.not_eq_true', List.any_eq_false, Nat.not_lt] at h
  obtain ⟨⟨⟨⟨⟨⟨⟨⟨⟨⟨⟨h1, h2⟩, h3⟩, h4⟩, h5⟩, h6⟩, h7⟩, h8⟩, ha⟩, hb⟩, hc⟩, hd⟩ := h
  exact ⟨⟨h1, h2⟩, h3.1.1.2, by rcases h4 with h | h <;> omega, by rcases h5 with h | h <;> omega, h6, h7, fun s hs => h8 s hs, ha, hb, hc, hd⟩
theorem ok_texts64 {L T : Nat} (hL : L ≤ 400000) (hT : T ≤ 64) : ∀ m, m ≤ L + (65544 * T + 70000) → m ≤ 140737488355328 := by
  intro m hm
  have hX : 65544 * T ≤ 4194816 := by omega
  have : m ≤ 400000 + (4194816 + 70000) := Nat.le_trans hm (Nat.add_le_add hL (Nat.add_le_add_right hX _))
  exact Nat.le_trans this (by decide)
theorem textsL_len (xs : List ByteArray) : (textsL xs).length ≤ 8 + 65544 * xs.length := by
  have h1 := putL_len xs.length
  have h2 := flat_le textL 65544 textL_len xs
  unfold textsL
  rw [List.length_append]
  omega
theorem badTexts_small {xs : List ByteArray} (h : xs.length ≤ 64) (h2 : ∀ s ∈ xs, s.size ≤ 16) : badTexts xs = false := by
  unfold badTexts
  rw [show decide ((xs.length : Int) ≤ 65536) = true by simp; omega, Bool.not_true, Bool.false_or, List.any_eq_false]
  intro s hs
  have := h2 s hs
  simp; omega
set_option maxHeartbeats 6400000 in
theorem cPut_calls (k : Int) (who nm ot tx : ByteArray) (A : Option Addr) (cap : Nat) (wd : List ByteArray) (a b c d : Int) (w : World) (hs1 : who.size ≤ 9223372036854775807) (hs2 : nm.size ≤ 9223372036854775807) (hs3 : ot.size ≤ 9223372036854775807) (hr : Kd.C Kd.string w A wd.length wd) (hc : wd.length ≤ cap) :
    Calls Try.prog 14 #[.agg #[.int .i64 k, .string who, .string nm, .string ot, .string tx, .slice A wd.length cap, .int .i64 a, .int .i64 b, .int .i64 c, .int .i64 d]] w fun e w' => e = .returned (.string (putC k who nm ot tx wd a b c d)) ∧ Below w.heap.size w w' := by
  have hu := Try.underlying28
  have HR := Aside0.mk hr
  have HC := Aside0.mk hc
  clear hr hc
  have hnew := heap_alloc_new w (.cells #[.int .i64 k, .string who, .string nm, .string ot, .string tx, .slice A wd.length cap, .int .i64 a, .int .i64 b, .int .i64 c, .int .i64 d] 28)
  have HB1 := Aside0.mk (below_alloc (Below.refl w.heap.size w) (.cells #[.int .i64 k, .string who, .string nm, .string ot, .string tx, .slice A wd.length cap, .int .i64 a, .int .i64 b, .int .i64 c, .int .i64 d] 28))
  have hs1' : (w.alloc (.cells #[.int .i64 k, .string who, .string nm, .string ot, .string tx, .slice A wd.length cap, .int .i64 a, .int .i64 b, .int .i64 c, .int .i64 d] 28)).heap.size = w.heap.size + 1 := by simp
  have BX1 := Aside0.mk hnew
  have HS1 := Aside0.mk hs1'
  clear hnew hs1'
  obtain ⟨gd, hgd⟩ : ∃ gd, goodC k who nm ot tx wd a b c d = gd := ⟨_, rfl⟩
  have HG := Aside0.mk hgd
  cases gd
  · have PC : Aside0 (putC k who nm ot tx wd a b c d = ⟨#[]⟩) := ⟨by unfold putC; rw [hgd]; rfl⟩
    clear hgd
    go_enter Try.func14, Try.ntmps14
    go_wp2_with fail
    refine (cGood_calls k who nm ot tx A cap wd a b c d _ hs1 hs2 hs3 (Kd.C_below HR.out HB1.out) HC.out).mono ?_
    rintro e w2 ⟨rfl, hb2⟩
    have HB2 := Aside0.mk (below_then HB1.out HB1.out.size hb2)
    clear hb2
    rw [HG.out]
    go_wp2
    go_ret
    exact ⟨by rw [PC.out]; rfl, HB2.out⟩
  · have PC : Aside0 (putC k who nm ot tx wd a b c d = strOfNums (cmdL k who nm ot tx wd a b c d)) := ⟨by unfold putC; rw [hgd]; rfl⟩
    obtain ⟨⟨f1, f2⟩, f3, f4, f5, f6, f7, f8, fa, fb, fc, fd⟩ := good_facts hgd
    clear hgd
    have FKk : Aside0 ((false || !fitsN k) = false) := ⟨by rw [fits_in (by omega) (by omega)]; rfl⟩
    have FKwho : Aside0 ((false || decide (65536 < who.size)) = false) := ⟨by simp; omega⟩
    have FKnm : Aside0 ((false || decide (65536 < nm.size)) = false) := ⟨by simp; omega⟩
    have FKot : Aside0 ((false || decide (65536 < ot.size)) = false) := ⟨by simp; omega⟩
    have FKtx : Aside0 ((false || decide (65536 < tx.size)) = false) := ⟨by simp; omega⟩
    have FKwd : Aside0 ((false || badTexts wd) = false) := ⟨by rw [badTexts_small f7 f8]; rfl⟩
    have FKa : Aside0 ((false || !fitsN a) = false) := ⟨by rw [fa]; rfl⟩
    have FKb : Aside0 ((false || !fitsN b) = false) := ⟨by rw [fb]; rfl⟩
    have FKc : Aside0 ((false || !fitsN c) = false) := ⟨by rw [fc]; rfl⟩
    have FKd : Aside0 ((false || !fitsN d) = false) := ⟨by rw [fd]; rfl⟩
    have LN : Aside0 ((putL k).length ≤ 8 ∧ (textL who).length ≤ 65544 ∧ (textL nm).length ≤ 65544 ∧ (textL ot).length ≤ 65544 ∧ (textL tx).length ≤ 65544 ∧ (putL a).length ≤ 8 ∧ (putL b).length ≤ 8 ∧ (putL c).length ≤ 8 ∧ (putL d).length ≤ 8) :=
      ⟨putL_len k, textL_len who, textL_len nm, textL_len ot, textL_len tx, putL_len a, putL_len b, putL_len c, putL_len d⟩
    have LT : Aside0 ((textsL wd).length ≤ 5000000) := ⟨by have := textsL_len wd; omega⟩
    clear f1 f2 f3 f4 f5 f6 f8 fa fb fc fd
    go_enter Try.func14, Try.ntmps14
    go_wp2_with fail
    refine (cGood_calls k who nm ot tx A cap wd a b c d _ hs1 hs2 hs3 (Kd.C_below HR.out HB1.out) HC.out).mono ?_
    rintro e w2 ⟨rfl, hb2⟩
    have HB2 := Aside0.mk (below_then HB1.out HB1.out.size hb2)
    have BX2 := Aside0.mk ((hb2.block w.heap.size (by rw [HS1.out]; omega)).trans BX1.out)
    have hz2 : w.heap.size < w2.heap.size := by have := hb2.size; rw [HS1.out] at this; omega
    clear hb2 BX1 HS1
    have hz : w2.cell? ⟨w.heap.size, 0, none⟩ = some (.int .i64 k) := (blk_cell BX2.out 0).trans rfl
    rw [HG.out]
    go_wp2_with fail
    clear hz
    obtain ⟨base, hba⟩ : ∃ base, base = w2.heap.size + 1 := ⟨_, rfl⟩
    obtain ⟨w3, hw3⟩ : ∃ w3, w3 = w2.alloc (.cells #[.slice none 0 0, .bool false] 97) := ⟨_, rfl⟩
    have hst : OutI w3 w2.heap.size 0 97 #[.bool false, .bool false] base w3 [] false := ⟨OutB.new _ _ _ _ (by decide) (by rw [hw3]; exact heap_alloc_new w2 _), OutK.refl _ _ _, by rw [hba, hw3]; simp⟩
    have HB3 := Aside0.mk (show Below w.heap.size w w3 from by rw [hw3]; exact below_step HB2.out (below_alloc (Below.refl _ _) _))
    have BX3 := Aside0.mk (show w3.heap[w.heap.size]? = some _ from by rw [hw3]; exact ((below_alloc (Below.refl w2.heap.size w2) (.cells #[.slice none 0 0, .bool false] 97)).block w.heap.size hz2).trans BX2.out)
    simp only [← hw3]
    have HI3 := Aside0.mk hst
    have BX := BX3
    clear hst hw3 BX2
    with_reducible refine ((takes_out w3 w2.heap.size 0 97 #[.bool false, .bool false] base).int w3 (([] : List Int)) false k HI3.out (by simp only [List.length_append, List.length_nil]; have := LN.out; omega)).mono ?_
    rintro e w4 ⟨rfl, h⟩
    rw [FKk.out] at h
    have HI4 := Aside0.mk h
    have BX' := Aside0.mk ((h.2.1.old w.heap.size (by omega) (by omega)).trans BX3.out)
    clear h BX HI3
    have BX := BX'
    clear BX'
    have hz : w4.cell? ⟨w.heap.size, 1, none⟩ = some (.string who) := (blk_cell BX.out 1).trans rfl
    go_wp2_with fail
    with_reducible refine ((takes_out w3 w2.heap.size 0 97 #[.bool false, .bool false] base).text w4 ([] ++ putL k) false who HI4.out (by simp only [List.length_append, List.length_nil]; have := LN.out; omega)).mono ?_
    rintro e w5 ⟨rfl, h⟩
    rw [FKwho.out] at h
    have HI5 := Aside0.mk h
    have BX' := Aside0.mk ((h.2.1.old w.heap.size (by omega) (by omega)).trans BX3.out)
    clear h hz BX HI4
    have BX := BX'
    clear BX'
    have hz : w5.cell? ⟨w.heap.size, 2, none⟩ = some (.string nm) := (blk_cell BX.out 2).trans rfl
    go_wp2_with fail
    with_reducible refine ((takes_out w3 w2.heap.size 0 97 #[.bool false, .bool false] base).text w5 ([] ++ putL k ++ textL who) false nm HI5.out (by simp only [List.length_append, List.length_nil]; have := LN.out; omega)).mono ?_
    rintro e w6 ⟨rfl, h⟩
    rw [FKnm.out] at h
    have HI6 := Aside0.mk h
    have BX' := Aside0.mk ((h.2.1.old w.heap.size (by omega) (by omega)).trans BX3.out)
    clear h hz BX HI5
    have BX := BX'
    clear BX'
    have hz : w6.cell? ⟨w.heap.size, 3, none⟩ = some (.string ot) := (blk_cell BX.out 3).trans rfl
    go_wp2_with fail
    with_reducible refine ((takes_out w3 w2.heap.size 0 97 #[.bool false, .bool false] base).text w6 ([] ++ putL k ++ textL who ++ textL nm) false ot HI6.out (by simp only [List.length_append, List.length_nil]; have := LN.out; omega)).mono ?_
    rintro e w7 ⟨rfl, h⟩
    rw [FKot.out] at h
    have HI7 := Aside0.mk h
    have BX' := Aside0.mk ((h.2.1.old w.heap.size (by omega) (by omega)).trans BX3.out)
    clear h hz BX HI6
    have BX := BX'
    clear BX'
    have hz : w7.cell? ⟨w.heap.size, 4, none⟩ = some (.string tx) := (blk_cell BX.out 4).trans rfl
    go_wp2_with fail
    with_reducible refine ((takes_out w3 w2.heap.size 0 97 #[.bool false, .bool false] base).text w7 ([] ++ putL k ++ textL who ++ textL nm ++ textL ot) false tx HI7.out (by simp only [List.length_append, List.length_nil]; have := LN.out; omega)).mono ?_
    rintro e w8 ⟨rfl, h⟩
    rw [FKtx.out] at h
    have HI8 := Aside0.mk h
    have BX' := Aside0.mk ((h.2.1.old w.heap.size (by omega) (by omega)).trans BX3.out)
    clear h hz BX HI7
    have BX := BX'
    clear BX'
    have hz : w8.cell? ⟨w.heap.size, 5, none⟩ = some (.slice A wd.length cap) := (blk_cell BX.out 5).trans rfl
    go_wp2_with fail
    refine (out_texts (takes_out w3 w2.heap.size 0 97 #[.bool false, .bool false] base) A cap wd ([] ++ putL k ++ textL who ++ textL nm ++ textL ot ++ textL tx) false w8 HI8.out (fun w' _ _ h => Kd.C_below HR.out (outI_below HB3.out h (by omega) (by omega))) (ok_texts64 (by simp only [List.length_append, List.length_nil]; have := LN.out; omega) f7) ⟨_, rfl⟩).mono ?_
    rintro e w9 ⟨rfl, h⟩
    rw [FKwd.out] at h
    have HI9 := Aside0.mk h
    have BX' := Aside0.mk ((h.2.1.old w.heap.size (by omega) (by omega)).trans BX3.out)
    clear h hz BX HI8
    have hz6 : w9.cell? ⟨w.heap.size, 6, none⟩ = some (.int .i64 a) := (blk_cell BX'.out 6).trans rfl
    have hz7 : w9.cell? ⟨w.heap.size, 7, none⟩ = some (.int .i64 b) := (blk_cell BX'.out 7).trans rfl
    have hz8 : w9.cell? ⟨w.heap.size, 8, none⟩ = some (.int .i64 c) := (blk_cell BX'.out 8).trans rfl
    have hz9 : w9.cell? ⟨w.heap.size, 9, none⟩ = some (.int .i64 d) := (blk_cell BX'.out 9).trans rfl
    go_wp2_with fail
    clear hz6 hz7 hz8 hz9 BX'
    go_loopw [5, 31] (fun _ i wr => ∃ j : Nat, j ≤ 4 ∧ i = .int .i64 j ∧ Aside0 (OutI w3 w2.heap.size 0 97 #[.bool false, .bool false] base wr ([] ++ putL k ++ textL who ++ textL nm ++ textL ot ++ textL tx ++ textsL wd ++ ([a, b, c, d].take j).flatMap putL) false)) (fun _ i _ => 4 - (intOf i).toNat)
    case atStart => exact ⟨0, Nat.zero_le _, rfl, ⟨by simpa using HI9.out⟩⟩
    case round =>
      have ix0 : ∀ w : World, (Instr.index 23 (.agg #[.int .i64 a, .int .i64 b, .int .i64 c, .int .i64 d]) (.int .i64 0)).run Try.prog w = .ok (.int .i64 a) w := fun _ => by kernel_rfl
      have ix1 : ∀ w : World, (Instr.index 23 (.agg #[.int .i64 a, .int .i64 b, .int .i64 c, .int .i64 d]) (.int .i64 1)).run Try.prog w = .ok (.int .i64 b) w := fun _ => by kernel_rfl
      have ix2 : ∀ w : World, (Instr.index 23 (.agg #[.int .i64 a, .int .i64 b, .int .i64 c, .int .i64 d]) (.int .i64 2)).run Try.prog w = .ok (.int .i64 c) w := fun _ => by kernel_rfl
      have ix3 : ∀ w : World, (Instr.index 23 (.agg #[.int .i64 a, .int .i64 b, .int .i64 c, .int .i64 d]) (.int .i64 3)).run Try.prog w = .ok (.int .i64 d) w := fun _ => by kernel_rfl
      obtain ⟨j, hj, rfl, HI⟩ := hrel
      clear HI9
      rcases (show j = 0 ∨ j = 1 ∨ j = 2 ∨ j = 3 ∨ j = 4 from by omega) with rfl | rfl | rfl | rfl | rfl
      · go_wp2_with fail
        refine ((takes_out w3 w2.heap.size 0 97 #[.bool false, .bool false] base).int wr _ false a HI.out (by have := LN.out; have := LT.out; simp only [List.length_append, List.length_nil, List.take, List.flatMap_cons, List.flatMap_nil]; omega)).mono ?_
        rintro e w9 ⟨rfl, h⟩
        rw [FKa.out] at h
        have HI9 := Aside0.mk h
        clear h HI
        go_wp2_with fail
        go_roundw
        case rel => exact ⟨1, by omega, rfl, ⟨by have h := HI9.out; rw [List.append_assoc] at h; simpa only [List.take, List.flatMap_cons, List.flatMap_nil, List.append_nil, List.nil_append, List.append_assoc] using h⟩⟩
        case measure => simp [intOf]
      · go_wp2_with fail
        refine ((takes_out w3 w2.heap.size 0 97 #[.bool false, .bool false] base).int wr _ false b HI.out (by have := LN.out; have := LT.out; simp only [List.length_append, List.length_nil, List.take, List.flatMap_cons, List.flatMap_nil]; omega)).mono ?_
        rintro e w9 ⟨rfl, h⟩
        rw [FKb.out] at h
        have HI9 := Aside0.mk h
        clear h HI
        go_wp2_with fail
        go_roundw
        case rel => exact ⟨2, by omega, rfl, ⟨by have h := HI9.out; rw [List.append_assoc] at h; simpa only [List.take, List.flatMap_cons, List.flatMap_nil, List.append_nil, List.nil_append, List.append_assoc] using h⟩⟩
        case measure => simp [intOf]
      · go_wp2_with fail
        refine ((takes_out w3 w2.heap.size 0 97 #[.bool false, .bool false] base).int wr _ false c HI.out (by have := LN.out; have := LT.out; simp only [List.length_append, List.length_nil, List.take, List.flatMap_cons, List.flatMap_nil]; omega)).mono ?_
        rintro e w9 ⟨rfl, h⟩
        rw [FKc.out] at h
        have HI9 := Aside0.mk h
        clear h HI
        go_wp2_with fail
        go_roundw
        case rel => exact ⟨3, by omega, rfl, ⟨by have h := HI9.out; rw [List.append_assoc] at h; simpa only [List.take, List.flatMap_cons, List.flatMap_nil, List.append_nil, List.nil_append, List.append_assoc] using h⟩⟩
        case measure => simp [intOf]
      · go_wp2_with fail
        refine ((takes_out w3 w2.heap.size 0 97 #[.bool false, .bool false] base).int wr _ false d HI.out (by have := LN.out; have := LT.out; simp only [List.length_append, List.length_nil, List.take, List.flatMap_cons, List.flatMap_nil]; omega)).mono ?_
        rintro e w9 ⟨rfl, h⟩
        rw [FKd.out] at h
        have HI9 := Aside0.mk h
        clear h HI
        go_wp2_with fail
        go_roundw
        case rel => exact ⟨4, by omega, rfl, ⟨by have h := HI9.out; rw [List.append_assoc] at h; simpa only [List.take, List.flatMap_cons, List.flatMap_nil, List.append_nil, List.nil_append, List.append_assoc] using h⟩⟩
        case measure => simp [intOf]
      · have HBF := Aside0.mk (outI_below HB3.out HI.out (by omega) (by omega))
        have hl : [] ++ putL k ++ textL who ++ textL nm ++ textL ot ++ textL tx ++ textsL wd ++ ([a, b, c, d].take 4).flatMap putL = cmdL k who nm ot tx wd a b c d := by
          simp only [cmdL, List.take, List.flatMap_cons, List.flatMap_nil, List.append_nil, List.nil_append, List.append_assoc]
        have hi := HI.out
        rw [hl] at hi
        have HIF := Aside0.mk hi
        obtain ⟨S, hS⟩ : ∃ S, S = strOfNums (cmdL k who nm ot tx wd a b c d) := ⟨_, rfl⟩
        have hS2 : bytesR (cmdL k who nm ot tx wd a b c d) false = .tuple #[.string S, .bool true] := by rw [hS]; rfl
        have hS3 : putC k who nm ot tx wd a b c d = S := by rw [PC.out, hS]
        have HS2 := Aside0.mk hS2
        have HS3 := Aside0.mk hS3
        clear hS hS2 hS3 hi hl HI
        go_wp2_with fail
        refine (out_bytes _ _ _ _ _ _ _ _ (by exact HIF.out.1)).mono ?_
        rintro e w10 ⟨rfl, rfl⟩
        rw [HS2.out]
        go_wp2
        go_ret
        exact ⟨by rw [HS3.out]; rfl, HBF.out⟩
end Go.Proofs.Ytnajmemcdipknaa.PK
