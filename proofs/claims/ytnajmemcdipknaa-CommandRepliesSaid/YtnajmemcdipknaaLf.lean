/- What is written is read again, in plain words: item by item. Condition: the item is neither bad nor too large to be played.
Names in plain words: what the program's Good and the document's Good tell. Condition: none.
command.Good, the walk. Condition: none.
command.Put, the walk. Condition: none.
The document's Good for a command, the walk. Condition: the numbers are numbers of 64 bits.
The document's Put for a command, the walk. Condition: the numbers are numbers of 64 bits.
Reading a command, in plain words, and what a reader's walk carries. Condition: none.
An append of texts as one step of a region that draws its order; a command as it lies behind 'append([]string{}, x.Word...)'. Condition: none.
command.PutReply, the walk. Condition: the marks are words of 64 bits. -/
import Derived.Test.YtnajmemcdipknaaLe
import Derived.Test.YtnajmemcdipknaaLb
import Derived.Test.YtnajmemcdipknaaLc
import Derived.Test.YtnajmemcdipknaaLd
import Derived.Deep.RegionHeld3
import Derived.Deep.AppendLies
namespace Go.Proofs.Ytnajmemcdipknaa.PK
open Go.RowKit Go.Proofs.YtnajmemcdipknaaW.PrintWords Go.Proofs.YtnajmemcdipknaaW.PrintLast Go.Proofs.YtnajmemcdipknaaW.PrintMore
set_option linter.unusedVariables false
set_option linter.unusedSimpArgs false
set_option maxRecDepth 100000
theorem rest_range {s : ByteArray} {a r : List Int} (h : bytesOf s = a ++ r) : ∀ y ∈ r, 0 ≤ y ∧ y ≤ 255 := fun y hy => bytesOf_range s y (by rw [h]; exact List.mem_append_right _ hy)
theorem cut_rest {s : ByteArray} {a r : List Int} (h : bytesOf s = a ++ r) (n : Nat) (hn : n = a.length) : bytesOf (s.extract n s.size) = r := by
  rw [bytesOf_extract, ← bytesOf_len, List.take_length, h, hn, List.drop_left]
theorem rd_int (n : Int) (hn : -9007199254740992 ≤ n ∧ n ≤ 9007199254740992) (s : ByteArray) (r : List Int) (h : bytesOf s = putL n ++ r) : ∃ s', inInt s 0 = (n, s', 0) ∧ bytesOf s' = r := by
  have hg := get_put n hn s (strOfNums r) (by rw [h, strOf_bytes _ (rest_range h)])
  refine ⟨s.extract (putL n).length s.size, ?_, cut_rest h _ rfl⟩
  unfold inInt
  rw [if_pos rfl, hg, if_pos rfl, Int.toNat_natCast]
theorem rd_size (n most : Int) (h0 : 0 ≤ n) (h1 : n ≤ most) (h2 : n ≤ 65536) (s : ByteArray) (r : List Int) (h : bytesOf s = putL n ++ r) : ∃ s', inSize s 0 most = (n, s', 0) ∧ bytesOf s' = r := by
  obtain ⟨s', hi, hr⟩ := rd_int n (by omega) s r h
  refine ⟨s', ?_, hr⟩
  have he : sizeErr n most = 0 := by unfold sizeErr; rw [if_neg (by omega), if_neg (by omega)]
  unfold inSize
  rw [hi]
  simp only [if_true, he]
theorem rd_text (t : ByteArray) (ht : t.size ≤ 65536) (s : ByteArray) (r : List Int) (h : bytesOf s = textL t ++ r) : ∃ s', inText s 0 = (t, s', 0) ∧ bytesOf s' = r := by
  have htl : textL t = putL t.size ++ bytesOf t := by unfold textL; rw [if_neg (by omega)]
  rw [htl, List.append_assoc] at h
  obtain ⟨s', hi, hr⟩ := rd_size t.size 65536 (by omega) (by omega) (by omega) s _ h
  refine ⟨s'.extract t.size s'.size, ?_, cut_rest hr _ (bytesOf_len t).symm⟩
  have hsz : s'.size = t.size + r.length := by rw [← bytesOf_len, hr, List.length_append, bytesOf_len]
  unfold inText
  rw [hi]
  simp only [if_true]
  rw [if_neg (by omega), Int.toNat_natCast]
  have : s'.extract 0 t.size = t := by
    apply bytesOf_inj
    rw [bytesOf_extract, hr, ← bytesOf_len t, List.take_left]
    rfl
  rw [this]
theorem rd_seq {α : Type} (f : ByteArray → α × ByteArray × Int) (enc : α → List Int) (xs : List α) (hf : ∀ x ∈ xs, ∀ s r, bytesOf s = enc x ++ r → ∃ s', f s = (x, s', 0) ∧ bytesOf s' = r) :
    ∀ s r, bytesOf s = xs.flatMap enc ++ r → ∃ s', seqL f xs.length s = (xs, s', 0) ∧ bytesOf s' = r := by
  induction xs with
  | nil => intro s r h; exact ⟨s, rfl, by simpa using h⟩
  | cons x xs ih =>
    intro s r h
    rw [List.flatMap_cons, List.append_assoc] at h
    obtain ⟨s1, h1, hr1⟩ := hf x List.mem_cons_self s _ h
    obtain ⟨s2, h2, hr2⟩ := ih (fun y hy => hf y (List.mem_cons_of_mem _ hy)) s1 r hr1
    refine ⟨s2, ?_, hr2⟩
    simp only [List.length_cons, seqL, h1, if_true, h2]
theorem rd_textsN (most : Int) (xs : List ByteArray) (hx : ∀ x ∈ xs, x.size ≤ 65536) (hl : (xs.length : Int) ≤ most) (hl2 : xs.length ≤ 65536) (s : ByteArray) (r : List Int) (h : bytesOf s = textsL xs ++ r) : ∃ s', inTexts s 0 most = (xs, s', 0) ∧ bytesOf s' = r := by
  unfold textsL at h
  rw [List.append_assoc] at h
  obtain ⟨s1, h1, hr1⟩ := rd_size xs.length most (by omega) hl (by omega) s _ h
  obtain ⟨s2, h2, hr2⟩ := rd_seq (fun s => inText s 0) textL xs (fun x hm s r h => rd_text x (hx x hm) s r h) s1 r hr1
  refine ⟨s2, ?_, hr2⟩
  unfold inTexts inSeq
  rw [h1]
  simp only [if_true, Int.toNat_natCast]
  exact h2
end Go.Proofs.Ytnajmemcdipknaa.PK
namespace Go.Proofs.Ytnajmemcdipknaa.PK
open Go.RowKit Go.Proofs.YtnajmemcdipknaaW.PrintWords Go.Proofs.YtnajmemcdipknaaW.PrintLast Go.Proofs.YtnajmemcdipknaaW.PrintMore
set_option linter.unusedVariables false
set_option linter.unusedSimpArgs false
set_option maxRecDepth 100000
def letB (c : Int) : Bool := decide ((65 ≤ c ∧ c ≤ 90) ∨ (97 ≤ c ∧ c ≤ 122))
def inB (c : Int) : Bool := decide ((65 ≤ c ∧ c ≤ 90) ∨ (97 ≤ c ∧ c ≤ 122) ∨ (48 ≤ c ∧ c ≤ 57) ∨ c = 95 ∨ c = 45)
def nameOk (s : ByteArray) : Bool := decide (0 < s.size) && decide (s.size ≤ 32) && letB (bt s 0) && (bytesOf s).all inB
theorem letter_eq (c : Int) : PC.lex_letter.f c = some (letB c) := by
  unfold PC.lex_letter.f letB
  repeat' split
  all_goals (rw [Option.some.injEq, Bool.eq_iff_iff]; simp only [decide_eq_true_eq, beq_iff_eq, true_iff, Bool.false_eq_true, false_iff]; omega)
theorem inName_eq (c : Int) : PC.lex_inName.f c = some (inB c) := by
  unfold PC.lex_inName.f
  rw [letter_eq, Option.bind_some]
  unfold letB inB
  repeat' split
  all_goals (simp only [decide_eq_true_eq] at *; rw [Option.some.injEq, Bool.eq_iff_iff]; simp only [decide_eq_true_eq, beq_iff_eq, true_iff, Bool.false_eq_true, false_iff]; omega)
theorem drop_bt (s : ByteArray) (i : Nat) (h : i < s.size) : (bytesOf s).drop i = bt s (i : Int) :: (bytesOf s).drop (i + 1) := by
  have hl : i < (bytesOf s).length := by rw [bytesOf_len]; exact h
  rw [List.drop_eq_getElem_cons hl, bt_nat, List.getD_eq_getElem?_getD, List.getElem?_eq_getElem hl]
  rfl
theorem lex_l0 (s : ByteArray) (hs : s.size ≤ 9223372036854775807) (r : Nat) : ∀ (k : Nat) (i : Nat), i + r = s.size → r < k → PC.lex_Good.l0 k s s.size i = some (((bytesOf s).drop i).all inB) := by
  induction r with
  | zero =>
    intro k i h1 hk
    obtain ⟨k, rfl⟩ : ∃ j, k = j + 1 := ⟨k - 1, by omega⟩
    simp only [PC.lex_Good.l0]
    rw [if_neg (by omega), List.drop_of_length_le (by rw [bytesOf_len]; omega)]
    rfl
  | succ r ih =>
    intro k i h1 hk
    obtain ⟨k, rfl⟩ : ∃ j, k = j + 1 := ⟨k - 1, by omega⟩
    simp only [PC.lex_Good.l0]
    rw [if_pos (by omega), if_pos (by omega), if_pos (by omega), inName_eq, Option.bind_some, drop_bt s i (by omega), List.all_cons, w64 _ (by omega) (by omega)]
    cases inB (bt s i)
    · simp
    · have := ih k (i + 1) (by omega) (by omega)
      rw [show ((i : Int) + 1) = ((i + 1 : Nat) : Int) from rfl, if_pos rfl, this, Bool.true_and]
theorem lexGood_eq (s : ByteArray) (hs : s.size ≤ 9223372036854775807) (k : Nat) (hk : 40 ≤ k) : PC.lex_Good.f k s = some (nameOk s) := by
  obtain ⟨k, rfl⟩ : ∃ j, k = j + 1 := ⟨k - 1, by omega⟩
  unfold PC.lex_Good.f nameOk
  by_cases h0 : s.size = 0
  · rw [if_pos ((toList_nil_iff s).mpr h0)]
    simp [PC.lex_Good.j0, h0]
  · rw [if_neg (fun h => h0 ((toList_nil_iff s).mp h))]
    by_cases h1 : 32 < s.size
    · rw [if_pos (by omega)]
      have : decide (s.size ≤ 32) = false := by simp; omega
      simp [PC.lex_Good.j0, this]
    · rw [if_neg (by omega), if_pos (by omega), letter_eq, Option.bind_some]
      have e1 : decide (0 < s.size) = true := by simp; omega
      have e2 : decide (s.size ≤ 32) = true := by simp; omega
      rw [e1, e2]
      cases hl : letB (bt s 0)
      · simp [PC.lex_Good.j0]
      · have := lex_l0 s hs s.size k 0 (by omega) (by omega)
        simp only [PC.lex_Good.j0, Bool.not_true, Bool.false_eq_true, if_false]
        rw [show ((0 : Nat) : Int) = 0 from rfl, List.drop_zero] at this
        rw [this]
        simp
theorem cname_eq (s : ByteArray) (hs : s.size ≤ 9223372036854775807) (k : Nat) (hk : 40 ≤ k) : PC.command_name.f k s = some (decide (s.size = 0) || nameOk s) := by
  unfold PC.command_name.f
  by_cases h0 : s.size = 0
  · rw [if_pos ((toList_nil_iff s).mpr h0)]
    simp [h0]
  · rw [if_neg (fun h => h0 ((toList_nil_iff s).mp h)), lexGood_eq s hs k hk]
    simp [h0]
end Go.Proofs.Ytnajmemcdipknaa.PK
namespace Go.Proofs.Ytnajmemcdipknaa.PK
open Go.RowKit Go.Proofs.YtnajmemcdipknaaW.PrintWords Go.Proofs.YtnajmemcdipknaaW.PrintLast Go.Proofs.YtnajmemcdipknaaW.PrintMore
open Go.ChangeShapes Go.WideShapes
set_option linter.unusedVariables false
set_option linter.unusedSimpArgs false
set_option maxRecDepth 100000
def goodC (k : Int) (who nm ot tx : ByteArray) (wd : List ByteArray) (a b c d : Int) : Bool :=
  decide (1 ≤ k) && decide (k ≤ 18) && nameOk who && (decide (nm.size = 0) || nameOk nm) && (decide (ot.size = 0) || nameOk ot) && decide (tx.size ≤ 65536) && decide (wd.length ≤ 64) && (!(wd.any fun s => decide (16 < s.size))) && fitsN a && fitsN b && fitsN c && fitsN d
set_option maxHeartbeats 6400000 in
theorem cGood_calls (k : Int) (who nm ot tx : ByteArray) (A : Option Addr) (cap : Nat) (wd : List ByteArray) (a b c d : Int) (w : World) (hs1 : who.size ≤ 9223372036854775807) (hs2 : nm.size ≤ 9223372036854775807) (hs3 : ot.size ≤ 9223372036854775807) (hr : Kd.C Kd.string w A wd.length wd) (hc : wd.length ≤ cap) :
    Calls Try.prog 15 #[.agg #[.int .i64 k, .string who, .string nm, .string ot, .string tx, .slice A wd.length cap, .int .i64 a, .int .i64 b, .int .i64 c, .int .i64 d]] w fun e w' => e = .returned (.bool (goodC k who nm ot tx wd a b c d)) ∧ Below w.heap.size w w' := by
  have hu := Try.underlying28
  have HR := Aside0.mk hr
  have HC := Aside0.mk hc
  clear hr hc
  have HB := Aside0.mk (Below.refl w.heap.size w)
  by_cases g1 : 1 ≤ k
  rotate_left
  · have e1a : decide (k < 1) = true := by simp; omega
    have gf : decide (1 ≤ k) = false := by simp; omega
    have GOOD : Aside0 (goodC k who nm ot tx wd a b c d = false) := ⟨by simp only [goodC, gf, Bool.and_false, Bool.false_and]⟩
    clear gf
    clear g1
    go_enter Try.func15, Try.ntmps15
    go_wp2_with (first
      | (go_at_call 44; (with_reducible refine (PC.lex_Good.calls 40 who _ _ (lexGood_eq who hs1 40 (by omega))).mono ?_); rintro e w' ⟨rfl, ⟨nd, rfl⟩⟩; rw [H3.out])
      | (go_at_call 45; first
          | ((with_reducible refine (PC.command_name.calls 40 nm _ _ (cname_eq nm hs2 40 (by omega))).mono ?_); rintro e w' ⟨rfl, ⟨nd, rfl⟩⟩; rw [H4.out])
          | ((with_reducible refine (PC.command_name.calls 40 ot _ _ (cname_eq ot hs3 40 (by omega))).mono ?_); rintro e w' ⟨rfl, ⟨nd, rfl⟩⟩; rw [H5.out])))
    go_ret
    exact ⟨by rw [GOOD.out]; rfl, by repeat (first | (with_reducible first | exact HB.out | apply below_alloc | apply pw_below_drewN | apply below_drew1) | exact HB.out)⟩
  have e1a : decide (k < 1) = false := by simp; omega
  by_cases g2 : k ≤ 18
  rotate_left
  · have e2a : decide (18 < k) = true := by simp; omega
    have gf : decide (k ≤ 18) = false := by simp; omega
    have GOOD : Aside0 (goodC k who nm ot tx wd a b c d = false) := ⟨by simp only [goodC, gf, Bool.and_false, Bool.false_and]⟩
    clear gf
    clear g1 g2
    go_enter Try.func15, Try.ntmps15
    go_wp2_with (first
      | (go_at_call 44; (with_reducible refine (PC.lex_Good.calls 40 who _ _ (lexGood_eq who hs1 40 (by omega))).mono ?_); rintro e w' ⟨rfl, ⟨nd, rfl⟩⟩; rw [H3.out])
      | (go_at_call 45; first
          | ((with_reducible refine (PC.command_name.calls 40 nm _ _ (cname_eq nm hs2 40 (by omega))).mono ?_); rintro e w' ⟨rfl, ⟨nd, rfl⟩⟩; rw [H4.out])
          | ((with_reducible refine (PC.command_name.calls 40 ot _ _ (cname_eq ot hs3 40 (by omega))).mono ?_); rintro e w' ⟨rfl, ⟨nd, rfl⟩⟩; rw [H5.out])))
    go_ret
    exact ⟨by rw [GOOD.out]; rfl, by repeat (first | (with_reducible first | exact HB.out | apply below_alloc | apply pw_below_drewN | apply below_drew1) | exact HB.out)⟩
  have e2a : decide (18 < k) = false := by simp; omega
  by_cases g3 : nameOk who = true
  rotate_left
  · have H3 := Aside0.mk (Bool.eq_false_iff.mpr g3)
    have gf := H3.out
    have GOOD : Aside0 (goodC k who nm ot tx wd a b c d = false) := ⟨by simp only [goodC, gf, Bool.and_false, Bool.false_and]⟩
    clear gf
    clear g1 g2 g3
    go_enter Try.func15, Try.ntmps15
    go_wp2_with (first
      | (go_at_call 44; (with_reducible refine (PC.lex_Good.calls 40 who _ _ (lexGood_eq who hs1 40 (by omega))).mono ?_); rintro e w' ⟨rfl, ⟨nd, rfl⟩⟩; rw [H3.out])
      | (go_at_call 45; first
          | ((with_reducible refine (PC.command_name.calls 40 nm _ _ (cname_eq nm hs2 40 (by omega))).mono ?_); rintro e w' ⟨rfl, ⟨nd, rfl⟩⟩; rw [H4.out])
          | ((with_reducible refine (PC.command_name.calls 40 ot _ _ (cname_eq ot hs3 40 (by omega))).mono ?_); rintro e w' ⟨rfl, ⟨nd, rfl⟩⟩; rw [H5.out])))
    go_ret
    exact ⟨by rw [GOOD.out]; rfl, by repeat (first | (with_reducible first | exact HB.out | apply below_alloc | apply pw_below_drewN | apply below_drew1) | exact HB.out)⟩
  have H3 := Aside0.mk g3
  by_cases g4 : (decide (nm.size = 0) || nameOk nm) = true
  rotate_left
  · have H4 := Aside0.mk (Bool.eq_false_iff.mpr g4)
    have gf := H4.out
    have GOOD : Aside0 (goodC k who nm ot tx wd a b c d = false) := ⟨by simp only [goodC, gf, Bool.and_false, Bool.false_and]⟩
    clear gf
    clear g1 g2 g3 g4
    go_enter Try.func15, Try.ntmps15
    go_wp2_with (first
      | (go_at_call 44; (with_reducible refine (PC.lex_Good.calls 40 who _ _ (lexGood_eq who hs1 40 (by omega))).mono ?_); rintro e w' ⟨rfl, ⟨nd, rfl⟩⟩; rw [H3.out])
      | (go_at_call 45; first
          | ((with_reducible refine (PC.command_name.calls 40 nm _ _ (cname_eq nm hs2 40 (by omega))).mono ?_); rintro e w' ⟨rfl, ⟨nd, rfl⟩⟩; rw [H4.out])
          | ((with_reducible refine (PC.command_name.calls 40 ot _ _ (cname_eq ot hs3 40 (by omega))).mono ?_); rintro e w' ⟨rfl, ⟨nd, rfl⟩⟩; rw [H5.out])))
    go_ret
    exact ⟨by rw [GOOD.out]; rfl, by repeat (first | (with_reducible first | exact HB.out | apply below_alloc | apply pw_below_drewN | apply below_drew1) | exact HB.out)⟩
  have H4 := Aside0.mk g4
  by_cases g5 : (decide (ot.size = 0) || nameOk ot) = true
  rotate_left
  · have H5 := Aside0.mk (Bool.eq_false_iff.mpr g5)
    have gf := H5.out
    have GOOD : Aside0 (goodC k who nm ot tx wd a b c d = false) := ⟨by simp only [goodC, gf, Bool.and_false, Bool.false_and]⟩
    clear gf
    clear g1 g2 g3 g4 g5
    go_enter Try.func15, Try.ntmps15
    go_wp2_with (first
      | (go_at_call 44; (with_reducible refine (PC.lex_Good.calls 40 who _ _ (lexGood_eq who hs1 40 (by omega))).mono ?_); rintro e w' ⟨rfl, ⟨nd, rfl⟩⟩; rw [H3.out])
      | (go_at_call 45; first
          | ((with_reducible refine (PC.command_name.calls 40 nm _ _ (cname_eq nm hs2 40 (by omega))).mono ?_); rintro e w' ⟨rfl, ⟨nd, rfl⟩⟩; rw [H4.out])
          | ((with_reducible refine (PC.command_name.calls 40 ot _ _ (cname_eq ot hs3 40 (by omega))).mono ?_); rintro e w' ⟨rfl, ⟨nd, rfl⟩⟩; rw [H5.out])))
    go_ret
    exact ⟨by rw [GOOD.out]; rfl, by repeat (first | (with_reducible first | exact HB.out | apply below_alloc | apply pw_below_drewN | apply below_drew1) | exact HB.out)⟩
  have H5 := Aside0.mk g5
  by_cases g6 : tx.size ≤ 65536
  rotate_left
  · have e6a : decide ((65536 : Int) < (tx.size : Int)) = true := by simp; omega
    have e6b : decide (65536 < tx.size) = true := by simp; omega
    have gf : decide (tx.size ≤ 65536) = false := by simp; omega
    have GOOD : Aside0 (goodC k who nm ot tx wd a b c d = false) := ⟨by simp only [goodC, gf, Bool.and_false, Bool.false_and]⟩
    clear gf
    clear g1 g2 g3 g4 g5 g6
    go_enter Try.func15, Try.ntmps15
    go_wp2_with (first
      | (go_at_call 44; (with_reducible refine (PC.lex_Good.calls 40 who _ _ (lexGood_eq who hs1 40 (by omega))).mono ?_); rintro e w' ⟨rfl, ⟨nd, rfl⟩⟩; rw [H3.out])
      | (go_at_call 45; first
          | ((with_reducible refine (PC.command_name.calls 40 nm _ _ (cname_eq nm hs2 40 (by omega))).mono ?_); rintro e w' ⟨rfl, ⟨nd, rfl⟩⟩; rw [H4.out])
          | ((with_reducible refine (PC.command_name.calls 40 ot _ _ (cname_eq ot hs3 40 (by omega))).mono ?_); rintro e w' ⟨rfl, ⟨nd, rfl⟩⟩; rw [H5.out])))
    go_ret
    exact ⟨by rw [GOOD.out]; rfl, by repeat (first | (with_reducible first | exact HB.out | apply below_alloc | apply pw_below_drewN | apply below_drew1) | exact HB.out)⟩
  have e6a : decide ((65536 : Int) < (tx.size : Int)) = false := by simp; omega
  have e6b : decide (65536 < tx.size) = false := by simp; omega
  by_cases g7 : wd.length ≤ 64
  rotate_left
  · have e7a : decide ((64 : Int) < (wd.length : Int)) = true := by simp; omega
    have e7b : decide (64 < wd.length) = true := by simp; omega
    have gf : decide (wd.length ≤ 64) = false := by simp; omega
    have GOOD : Aside0 (goodC k who nm ot tx wd a b c d = false) := ⟨by simp only [goodC, gf, Bool.and_false, Bool.false_and]⟩
    clear gf
    clear g1 g2 g3 g4 g5 g6 g7
    go_enter Try.func15, Try.ntmps15
    go_wp2_with (first
      | (go_at_call 44; (with_reducible refine (PC.lex_Good.calls 40 who _ _ (lexGood_eq who hs1 40 (by omega))).mono ?_); rintro e w' ⟨rfl, ⟨nd, rfl⟩⟩; rw [H3.out])
      | (go_at_call 45; first
          | ((with_reducible refine (PC.command_name.calls 40 nm _ _ (cname_eq nm hs2 40 (by omega))).mono ?_); rintro e w' ⟨rfl, ⟨nd, rfl⟩⟩; rw [H4.out])
          | ((with_reducible refine (PC.command_name.calls 40 ot _ _ (cname_eq ot hs3 40 (by omega))).mono ?_); rintro e w' ⟨rfl, ⟨nd, rfl⟩⟩; rw [H5.out])))
    go_ret
    exact ⟨by rw [GOOD.out]; rfl, by repeat (first | (with_reducible first | exact HB.out | apply below_alloc | apply pw_below_drewN | apply below_drew1) | exact HB.out)⟩
  have e7a : decide ((64 : Int) < (wd.length : Int)) = false := by simp; omega
  have e7b : decide (64 < wd.length) = false := by simp; omega
  obtain ⟨wb, hwb⟩ : ∃ wb, (wd.any fun s => decide (16 < s.size)) = wb := ⟨_, rfl⟩
  have HW := Aside0.mk hwb
  cases wb
  rotate_left
  · have GOOD : Aside0 (goodC k who nm ot tx wd a b c d = false) := ⟨by simp only [goodC, hwb, Bool.not_true, Bool.and_false, Bool.false_and]⟩
    clear hwb g1 g2 g3 g4 g5 g6 g7
    go_enter Try.func15, Try.ntmps15
    go_wp2_with (first
      | (go_at_call 46; refine (contains_calls 47 good1_enter (fun s => decide (16 < s.size)) good1_calls A cap wd _ (Kd.C_below HR.out (by repeat (first | (with_reducible first | exact HB.out | apply below_alloc | apply pw_below_drewN | apply below_drew1) | exact HB.out)))).mono ?_; rintro e w' ⟨rfl, rfl⟩; rw [HW.out])
      | (first
  | (go_at_call 44; (with_reducible refine (PC.lex_Good.calls 40 who _ _ (lexGood_eq who hs1 40 (by omega))).mono ?_); rintro e w' ⟨rfl, ⟨nd, rfl⟩⟩; rw [H3.out])
  | (go_at_call 45; first
      | ((with_reducible refine (PC.command_name.calls 40 nm _ _ (cname_eq nm hs2 40 (by omega))).mono ?_); rintro e w' ⟨rfl, ⟨nd, rfl⟩⟩; rw [H4.out])
      | ((with_reducible refine (PC.command_name.calls 40 ot _ _ (cname_eq ot hs3 40 (by omega))).mono ?_); rintro e w' ⟨rfl, ⟨nd, rfl⟩⟩; rw [H5.out]))))
    go_ret
    exact ⟨by rw [GOOD.out]; rfl, by repeat (first | (with_reducible first | exact HB.out | apply below_alloc | apply pw_below_drewN | apply below_drew1) | exact HB.out)⟩
  have GOOD : Aside0 (goodC k who nm ot tx wd a b c d = (fitsN a && fitsN b && fitsN c && fitsN d)) := ⟨by simp only [goodC, hwb, g1, g2, g3, g4, g5, g6, g7, decide_true, Bool.true_and, Bool.not_false]⟩
  clear hwb g1 g2 g3 g4 g5 g6 g7
  go_enter Try.func15, Try.ntmps15
  go_wp2_with (first
    | (go_at_call 46; refine (contains_calls 47 good1_enter (fun s => decide (16 < s.size)) good1_calls A cap wd _ (Kd.C_below HR.out (by repeat (first | (with_reducible first | exact HB.out | apply below_alloc | apply pw_below_drewN | apply below_drew1) | exact HB.out)))).mono ?_; rintro e w' ⟨rfl, rfl⟩; rw [HW.out])
    | (first
  | (go_at_call 44; (with_reducible refine (PC.lex_Good.calls 40 who _ _ (lexGood_eq who hs1 40 (by omega))).mono ?_); rintro e w' ⟨rfl, ⟨nd, rfl⟩⟩; rw [H3.out])
  | (go_at_call 45; first
      | ((with_reducible refine (PC.command_name.calls 40 nm _ _ (cname_eq nm hs2 40 (by omega))).mono ?_); rintro e w' ⟨rfl, ⟨nd, rfl⟩⟩; rw [H4.out])
      | ((with_reducible refine (PC.command_name.calls 40 ot _ _ (cname_eq ot hs3 40 (by omega))).mono ?_); rintro e w' ⟨rfl, ⟨nd, rfl⟩⟩; rw [H5.out]))))
  go_loopw [4, 48] (fun _ i wr => ∃ j : Nat, j ≤ 4 ∧ i = .int .i64 j ∧ Aside0 ((0 < j → fitsN a = true) ∧ (1 < j → fitsN b = true) ∧ (2 < j → fitsN c = true) ∧ (3 < j → fitsN d = true)) ∧ Aside0 (Below w.heap.size w wr)) (fun _ i _ => 4 - (intOf i).toNat)
  case atStart => exact ⟨0, Nat.zero_le _, rfl, ⟨fun h => absurd h (by omega), fun h => absurd h (by omega), fun h => absurd h (by omega), fun h => absurd h (by omega)⟩, ⟨by repeat (first | (with_reducible first | exact HB.out | apply below_alloc | apply pw_below_drewN | apply below_drew1) | exact HB.out)⟩⟩
  case round =>
    have ix0 : ∀ w : World, (Instr.index 23 (.agg #[.int .i64 a, .int .i64 b, .int .i64 c, .int .i64 d]) (.int .i64 0)).run Try.prog w = .ok (.int .i64 a) w := fun _ => by kernel_rfl
    have ix1 : ∀ w : World, (Instr.index 23 (.agg #[.int .i64 a, .int .i64 b, .int .i64 c, .int .i64 d]) (.int .i64 1)).run Try.prog w = .ok (.int .i64 b) w := fun _ => by kernel_rfl
    have ix2 : ∀ w : World, (Instr.index 23 (.agg #[.int .i64 a, .int .i64 b, .int .i64 c, .int .i64 d]) (.int .i64 2)).run Try.prog w = .ok (.int .i64 c) w := fun _ => by kernel_rfl
    have ix3 : ∀ w : World, (Instr.index 23 (.agg #[.int .i64 a, .int .i64 b, .int .i64 c, .int .i64 d]) (.int .i64 3)).run Try.prog w = .ok (.int .i64 d) w := fun _ => by kernel_rfl
    obtain ⟨j, hj, rfl, HF, HB2⟩ := hrel
    rcases (show j = 0 ∨ j = 1 ∨ j = 2 ∨ j = 3 ∨ j = 4 from by omega) with rfl | rfl | rfl | rfl | rfl
    · by_cases hlo : -9007199254740992 ≤ a
      · have hlo' : decide (a < -9007199254740992) = false := by simp; omega
        by_cases hhi : a ≤ 9007199254740992
        · have hhi' : decide (9007199254740992 < a) = false := by simp; omega
          go_wp2_with fail
          go_roundw
          case rel => exact ⟨1, by omega, rfl, ⟨fun _ => fits_in hlo hhi, fun h => absurd h (by omega), fun h => absurd h (by omega), fun h => absurd h (by omega)⟩, HB2⟩
          case measure => simp [intOf]
        · have hhi' : decide (9007199254740992 < a) = true := by simp; omega
          go_wp2
          go_ret
          exact ⟨by rw [GOOD.out, fits_hi (n := a) (by omega)]; simp, HB2.out⟩
      · have hlo' : decide (a < -9007199254740992) = true := by simp; omega
        go_wp2
        go_ret
        exact ⟨by rw [GOOD.out, fits_lo (n := a) (by omega)]; simp, HB2.out⟩
    · by_cases hlo : -9007199254740992 ≤ b
      · have hlo' : decide (b < -9007199254740992) = false := by simp; omega
        by_cases hhi : b ≤ 9007199254740992
        · have hhi' : decide (9007199254740992 < b) = false := by simp; omega
          go_wp2_with fail
          go_roundw
          case rel => exact ⟨2, by omega, rfl, ⟨fun _ => HF.out.1 (by omega), fun _ => fits_in hlo hhi, fun h => absurd h (by omega), fun h => absurd h (by omega)⟩, HB2⟩
          case measure => simp [intOf]
        · have hhi' : decide (9007199254740992 < b) = true := by simp; omega
          go_wp2
          go_ret
          exact ⟨by rw [GOOD.out, HF.out.1 (by omega), fits_hi (n := b) (by omega)]; simp, HB2.out⟩
      · have hlo' : decide (b < -9007199254740992) = true := by simp; omega
        go_wp2
        go_ret
        exact ⟨by rw [GOOD.out, HF.out.1 (by omega), fits_lo (n := b) (by omega)]; simp, HB2.out⟩
    · by_cases hlo : -9007199254740992 ≤ c
      · have hlo' : decide (c < -9007199254740992) = false := by simp; omega
        by_cases hhi : c ≤ 9007199254740992
        · have hhi' : decide (9007199254740992 < c) = false := by simp; omega
          go_wp2_with fail
          go_roundw
          case rel => exact ⟨3, by omega, rfl, ⟨fun _ => HF.out.1 (by omega), fun _ => HF.out.2.1 (by omega), fun _ => fits_in hlo hhi, fun h => absurd h (by omega)⟩, HB2⟩
          case measure => simp [intOf]
        · have hhi' : decide (9007199254740992 < c) = true := by simp; omega
          go_wp2
          go_ret
          exact ⟨by rw [GOOD.out, HF.out.1 (by omega), HF.out.2.1 (by omega), fits_hi (n := c) (by omega)]; simp, HB2.out⟩
      · have hlo' : decide (c < -9007199254740992) = true := by simp; omega
        go_wp2
        go_ret
        exact ⟨by rw [GOOD.out, HF.out.1 (by omega), HF.out.2.1 (by omega), fits_lo (n := c) (by omega)]; simp, HB2.out⟩
    · by_cases hlo : -9007199254740992 ≤ d
      · have hlo' : decide (d < -9007199254740992) = false := by simp; omega
        by_cases hhi : d ≤ 9007199254740992
        · have hhi' : decide (9007199254740992 < d) = false := by simp; omega
          go_wp2_with fail
          go_roundw
          case rel => exact ⟨4, by omega, rfl, ⟨fun _ => HF.out.1 (by omega), fun _ => HF.out.2.1 (by omega), fun _ => HF.out.2.2.1 (by omega), fun _ => fits_in hlo hhi⟩, HB2⟩
          case measure => simp [intOf]
        · have hhi' : decide (9007199254740992 < d) = true := by simp; omega
          go_wp2
          go_ret
          exact ⟨by rw [GOOD.out, HF.out.1 (by omega), HF.out.2.1 (by omega), HF.out.2.2.1 (by omega), fits_hi (n := d) (by omega)]; simp, HB2.out⟩
      · have hlo' : decide (d < -9007199254740992) = true := by simp; omega
        go_wp2
        go_ret
        exact ⟨by rw [GOOD.out, HF.out.1 (by omega), HF.out.2.1 (by omega), HF.out.2.2.1 (by omega), fits_lo (n := d) (by omega)]; simp, HB2.out⟩
    · go_wp2
      go_ret
      exact ⟨by rw [GOOD.out, HF.out.1 (by omega), HF.out.2.1 (by omega), HF.out.2.2.1 (by omega), HF.out.2.2.2 (by omega)]; rfl, HB2.out⟩
end Go.Proofs.Ytnajmemcdipknaa.PK
namespace Go.Proofs.Ytnajmemcdipknaa.PK
open Go.RowKit Go.Proofs.YtnajmemcdipknaaW.PrintWords Go.Proofs.YtnajmemcdipknaaW.PrintLast Go.Proofs.YtnajmemcdipknaaW.PrintMore
open Go.ChangeShapes Go.WideShapes
set_option linter.unusedVariables false
set_option linter.unusedSimpArgs false
set_option maxRecDepth 100000
def cmdL (k : Int) (who nm ot tx : ByteArray) (wd : List ByteArray) (a b c d : Int) : List Int :=
  putL k ++ textL who ++ textL nm ++ textL ot ++ textL tx ++ textsL wd ++ putL a ++ putL b ++ putL c ++ putL d
def putC (k : Int) (who nm ot tx : ByteArray) (wd : List ByteArray) (a b c d : Int) : ByteArray := if goodC k who nm ot tx wd a b c d then strOfNums (cmdL k who nm ot tx wd a b c d) else ⟨#[]⟩
theorem good_facts {k : Int} {who nm ot tx : ByteArray} {wd : List ByteArray} {a b c d : Int} (h : goodC k who nm ot tx wd a b c d = true) :
    (1 ≤ k ∧ k ≤ 18) ∧ who.size ≤ 32 ∧ nm.size ≤ 32 ∧ ot.size ≤ 32 ∧ tx.size ≤ 65536 ∧ wd.length ≤ 64 ∧ (∀ s ∈ wd, s.size ≤ 16) ∧ fitsN a = true ∧ fitsN b = true ∧ fitsN c = true ∧ fitsN d = true := by
  unfold goodC nameOk at h
  simp only [Bool.and_eq_true, Bool.or_eq_true, decide_eq_true_eq, Bool.not_eq_true', List.any_eq_false, Nat.not_lt] at h
  obtain ⟨⟨⟨⟨⟨⟨⟨⟨⟨⟨⟨h1, h2⟩, h3⟩, h4⟩, h5⟩, h6⟩, h7⟩, h8⟩, ha⟩, hb⟩, hc⟩, hd⟩ := h
  exact ⟨⟨h1, h2⟩, h3.1.1.2, by rcases h4 with h | h <;> omega, by rcases h5 with h | h <;> omega, h6, h7, fun s hs => h8 s hs, ha, hb, hc, hd⟩
theorem ok_texts64 {L T : Nat} (hL : L ≤ 400000) (hT : T ≤ 64) : ∀ m, m ≤ L + (65544 * T + 70000) → m ≤ 140737488355328 := by
  intro m hm
  have hX : 65544 * T ≤ 4194816 := by omega
  have : m ≤ 400000 + (4194816 + 70000) := Nat.le_trans hm (Nat.add_le_add hL (Nat.add_le_add_right hX _))
  exact Nat.le_trans this (by decide)
theorem textsL_len (xs : List ByteArray) : (textsL xs).length ≤ 8 + 65544 * xs.length := by
  have h1 := putL_len xs.length
  have h2 := flat_le textL 65544 textL_len xs
  unfold textsL
  rw [List.length_append]
  omega
theorem badTexts_small {xs : List ByteArray} (h : xs.length ≤ 64) (h2 : ∀ s ∈ xs, s.size ≤ 16) : badTexts xs = false := by
  unfold badTexts
  rw [show decide ((xs.length : Int) ≤ 65536) = true by simp; omega, Bool.not_true, Bool.false_or, List.any_eq_false]
  intro s hs
  have := h2 s hs
  simp; omega
set_option maxHeartbeats 6400000 in
theorem cPut_calls (k : Int) (who nm ot tx : ByteArray) (A : Option Addr) (cap : Nat) (wd : List ByteArray) (a b c d : Int) (w : World) (hs1 : who.size ≤ 9223372036854775807) (hs2 : nm.size ≤ 9223372036854775807) (hs3 : ot.size ≤ 9223372036854775807) (hr : Kd.C Kd.string w A wd.length wd) (hc : wd.length ≤ cap) :
    Calls Try.prog 14 #[.agg #[.int .i64 k, .string who, .string nm, .string ot, .string tx, .slice A wd.length cap, .int .i64 a, .int .i64 b, .int .i64 c, .int .i64 d]] w fun e w' => e = .returned (.string (putC k who nm ot tx wd a b c d)) ∧ Below w.heap.size w w' := by
  have hu := Try.underlying28
  have HR := Aside0.mk hr
  have HC := Aside0.mk hc
  clear hr hc
  have hnew := heap_alloc_new w (.cells #[.int .i64 k, .string who, .string nm, .string ot, .string tx, .slice A wd.length cap, .int .i64 a, .int .i64 b, .int .i64 c, .int .i64 d] 28)
  have HB1 := Aside0.mk (below_alloc (Below.refl w.heap.size w) (.cells #[.int .i64 k, .string who, .string nm, .string ot, .string tx, .slice A wd.length cap, .int .i64 a, .int .i64 b, .int .i64 c, .int .i64 d] 28))
  have hs1' : (w.alloc (.cells #[.int .i64 k, .string who, .string nm, .string ot, .string tx, .slice A wd.length cap, .int .i64 a, .int .i64 b, .int .i64 c, .int .i64 d] 28)).heap.size = w.heap.size + 1 := by simp
  have BX1 := Aside0.mk hnew
  have HS1 := Aside0.mk hs1'
  clear hnew hs1'
  obtain ⟨gd, hgd⟩ : ∃ gd, goodC k who nm ot tx wd a b c d = gd := ⟨_, rfl⟩
  have HG := Aside0.mk hgd
  cases gd
  · have PC : Aside0 (putC k who nm ot tx wd a b c d = ⟨#[]⟩) := ⟨by unfold putC; rw [hgd]; rfl⟩
    clear hgd
    go_enter Try.func14, Try.ntmps14
    go_wp2_with fail
    refine (cGood_calls k who nm ot tx A cap wd a b c d _ hs1 hs2 hs3 (Kd.C_below HR.out HB1.out) HC.out).mono ?_
    rintro e w2 ⟨rfl, hb2⟩
    have HB2 := Aside0.mk (below_then HB1.out HB1.out.size hb2)
    clear hb2
    rw [HG.out]
    go_wp2
    go_ret
    exact ⟨by rw [PC.out]; rfl, HB2.out⟩
  · have PC : Aside0 (putC k who nm ot tx wd a b c d = strOfNums (cmdL k who nm ot tx wd a b c d)) := ⟨by unfold putC; rw [hgd]; rfl⟩
    obtain ⟨⟨f1, f2⟩, f3, f4, f5, f6, f7, f8, fa, fb, fc, fd⟩ := good_facts hgd
    clear hgd
    have FKk : Aside0 ((false || !fitsN k) = false) := ⟨by rw [fits_in (by omega) (by omega)]; rfl⟩
    have FKwho : Aside0 ((false || decide (65536 < who.size)) = false) := ⟨by simp; omega⟩
    have FKnm : Aside0 ((false || decide (65536 < nm.size)) = false) := ⟨by simp; omega⟩
    have FKot : Aside0 ((false || decide (65536 < ot.size)) = false) := ⟨by simp; omega⟩
    have FKtx : Aside0 ((false || decide (65536 < tx.size)) = false) := ⟨by simp; omega⟩
    have FKwd : Aside0 ((false || badTexts wd) = false) := ⟨by rw [badTexts_small f7 f8]; rfl⟩
    have FKa : Aside0 ((false || !fitsN a) = false) := ⟨by rw [fa]; rfl⟩
    have FKb : Aside0 ((false || !fitsN b) = false) := ⟨by rw [fb]; rfl⟩
    have FKc : Aside0 ((false || !fitsN c) = false) := ⟨by rw [fc]; rfl⟩
    have FKd : Aside0 ((false || !fitsN d) = false) := ⟨by rw [fd]; rfl⟩
    have LN : Aside0 ((putL k).length ≤ 8 ∧ (textL who).length ≤ 65544 ∧ (textL nm).length ≤ 65544 ∧ (textL ot).length ≤ 65544 ∧ (textL tx).length ≤ 65544 ∧ (putL a).length ≤ 8 ∧ (putL b).length ≤ 8 ∧ (putL c).length ≤ 8 ∧ (putL d).length ≤ 8) :=
      ⟨putL_len k, textL_len who, textL_len nm, textL_len ot, textL_len tx, putL_len a, putL_len b, putL_len c, putL_len d⟩
    have LT : Aside0 ((textsL wd).length ≤ 5000000) := ⟨by have := textsL_len wd; omega⟩
    clear f1 f2 f3 f4 f5 f6 f8 fa fb fc fd
    go_enter Try.func14, Try.ntmps14
    go_wp2_with fail
    refine (cGood_calls k who nm ot tx A cap wd a b c d _ hs1 hs2 hs3 (Kd.C_below HR.out HB1.out) HC.out).mono ?_
    rintro e w2 ⟨rfl, hb2⟩
    have HB2 := Aside0.mk (below_then HB1.out HB1.out.size hb2)
    have BX2 := Aside0.mk ((hb2.block w.heap.size (by rw [HS1.out]; omega)).trans BX1.out)
    have hz2 : w.heap.size < w2.heap.size := by have := hb2.size; rw [HS1.out] at this; omega
    clear hb2 BX1 HS1
    have hz : w2.cell? ⟨w.heap.size, 0, none⟩ = some (.int .i64 k) := (blk_cell BX2.out 0).trans rfl
    rw [HG.out]
    go_wp2_with fail
    clear hz
    obtain ⟨base, hba⟩ : ∃ base, base = w2.heap.size + 1 := ⟨_, rfl⟩
    obtain ⟨w3, hw3⟩ : ∃ w3, w3 = w2.alloc (.cells #[.slice none 0 0, .bool false] 97) := ⟨_, rfl⟩
    have hst : OutI w3 w2.heap.size 0 97 #[.bool false, .bool false] base w3 [] false := ⟨OutB.new _ _ _ _ (by decide) (by rw [hw3]; exact heap_alloc_new w2 _), OutK.refl _ _ _, by rw [hba, hw3]; simp⟩
    have HB3 := Aside0.mk (show Below w.heap.size w w3 from by rw [hw3]; exact below_step HB2.out (below_alloc (Below.refl _ _) _))
    have BX3 := Aside0.mk (show w3.heap[w.heap.size]? = some _ from by rw [hw3]; exact ((below_alloc (Below.refl w2.heap.size w2) (.cells #[.slice none 0 0, .bool false] 97)).block w.heap.size hz2).trans BX2.out)
    simp only [← hw3]
    have HI3 := Aside0.mk hst
    have BX := BX3
    clear hst hw3 BX2
    with_reducible refine ((takes_out w3 w2.heap.size 0 97 #[.bool false, .bool false] base).int w3 (([] : List Int)) false k HI3.out (by simp only [List.length_append, List.length_nil]; have := LN.out; omega)).mono ?_
    rintro e w4 ⟨rfl, h⟩
    rw [FKk.out] at h
    have HI4 := Aside0.mk h
    have BX' := Aside0.mk ((h.2.1.old w.heap.size (by omega) (by omega)).trans BX3.out)
    clear h BX HI3
    have BX := BX'
    clear BX'
    have hz : w4.cell? ⟨w.heap.size, 1, none⟩ = some (.string who) := (blk_cell BX.out 1).trans rfl
    go_wp2_with fail
    with_reducible refine ((takes_out w3 w2.heap.size 0 97 #[.bool false, .bool false] base).text w4 ([] ++ putL k) false who HI4.out (by simp only [List.length_append, List.length_nil]; have := LN.out; omega)).mono ?_
    rintro e w5 ⟨rfl, h⟩
    rw [FKwho.out] at h
    have HI5 := Aside0.mk h
    have BX' := Aside0.mk ((h.2.1.old w.heap.size (by omega) (by omega)).trans BX3.out)
    clear h hz BX HI4
    have BX := BX'
    clear BX'
    have hz : w5.cell? ⟨w.heap.size, 2, none⟩ = some (.string nm) := (blk_cell BX.out 2).trans rfl
    go_wp2_with fail
    with_reducible refine ((takes_out w3 w2.heap.size 0 97 #[.bool false, .bool false] base).text w5 ([] ++ putL k ++ textL who) false nm HI5.out (by simp only [List.length_append, List.length_nil]; have := LN.out; omega)).mono ?_
    rintro e w6 ⟨rfl, h⟩
    rw [FKnm.out] at h
    have HI6 := Aside0.mk h
    have BX' := Aside0.mk ((h.2.1.old w.heap.size (by omega) (by omega)).trans BX3.out)
    clear h hz BX HI5
    have BX := BX'
    clear BX'
    have hz : w6.cell? ⟨w.heap.size, 3, none⟩ = some (.string ot) := (blk_cell BX.out 3).trans rfl
    go_wp2_with fail
    with_reducible refine ((takes_out w3 w2.heap.size 0 97 #[.bool false, .bool false] base).text w6 ([] ++ putL k ++ textL who ++ textL nm) false ot HI6.out (by simp only [List.length_append, List.length_nil]; have := LN.out; omega)).mono ?_
    rintro e w7 ⟨rfl, h⟩
    rw [FKot.out] at h
    have HI7 := Aside0.mk h
    have BX' := Aside0.mk ((h.2.1.old w.heap.size (by omega) (by omega)).trans BX3.out)
    clear h hz BX HI6
    have BX := BX'
    clear BX'
    have hz : w7.cell? ⟨w.heap.size, 4, none⟩ = some (.string tx) := (blk_cell BX.out 4).trans rfl
    go_wp2_with fail
    with_reducible refine ((takes_out w3 w2.heap.size 0 97 #[.bool false, .bool false] base).text w7 ([] ++ putL k ++ textL who ++ textL nm ++ textL ot) false tx HI7.out (by simp only [List.length_append, List.length_nil]; have := LN.out; omega)).mono ?_
    rintro e w8 ⟨rfl, h⟩
    rw [FKtx.out] at h
    have HI8 := Aside0.mk h
    have BX' := Aside0.mk ((h.2.1.old w.heap.size (by omega) (by omega)).trans BX3.out)
    clear h hz BX HI7
    have BX := BX'
    clear BX'
    have hz : w8.cell? ⟨w.heap.size, 5, none⟩ = some (.slice A wd.length cap) := (blk_cell BX.out 5).trans rfl
    go_wp2_with fail
    refine (out_texts (takes_out w3 w2.heap.size 0 97 #[.bool false, .bool false] base) A cap wd ([] ++ putL k ++ textL who ++ textL nm ++ textL ot ++ textL tx) false w8 HI8.out (fun w' _ _ h => Kd.C_below HR.out (outI_below HB3.out h (by omega) (by omega))) (ok_texts64 (by simp only [List.length_append, List.length_nil]; have := LN.out; omega) f7) ⟨_, rfl⟩).mono ?_
    rintro e w9 ⟨rfl, h⟩
    rw [FKwd.out] at h
    have HI9 := Aside0.mk h
    have BX' := Aside0.mk ((h.2.1.old w.heap.size (by omega) (by omega)).trans BX3.out)
    clear h hz BX HI8
    have hz6 : w9.cell? ⟨w.heap.size, 6, none⟩ = some (.int .i64 a) := (blk_cell BX'.out 6).trans rfl
    have hz7 : w9.cell? ⟨w.heap.size, 7, none⟩ = some (.int .i64 b) := (blk_cell BX'.out 7).trans rfl
    have hz8 : w9.cell? ⟨w.heap.size, 8, none⟩ = some (.int .i64 c) := (blk_cell BX'.out 8).trans rfl
    have hz9 : w9.cell? ⟨w.heap.size, 9, none⟩ = some (.int .i64 d) := (blk_cell BX'.out 9).trans rfl
    go_wp2_with fail
    clear hz6 hz7 hz8 hz9 BX'
    go_loopw [5, 31] (fun _ i wr => ∃ j : Nat, j ≤ 4 ∧ i = .int .i64 j ∧ Aside0 (OutI w3 w2.heap.size 0 97 #[.bool false, .bool false] base wr ([] ++ putL k ++ textL who ++ textL nm ++ textL ot ++ textL tx ++ textsL wd ++ ([a, b, c, d].take j).flatMap putL) false)) (fun _ i _ => 4 - (intOf i).toNat)
    case atStart => exact ⟨0, Nat.zero_le _, rfl, ⟨by simpa using HI9.out⟩⟩
    case round =>
      have ix0 : ∀ w : World, (Instr.index 23 (.agg #[.int .i64 a, .int .i64 b, .int .i64 c, .int .i64 d]) (.int .i64 0)).run Try.prog w = .ok (.int .i64 a) w := fun _ => by kernel_rfl
      have ix1 : ∀ w : World, (Instr.index 23 (.agg #[.int .i64 a, .int .i64 b, .int .i64 c, .int .i64 d]) (.int .i64 1)).run Try.prog w = .ok (.int .i64 b) w := fun _ => by kernel_rfl
      have ix2 : ∀ w : World, (Instr.index 23 (.agg #[.int .i64 a, .int .i64 b, .int .i64 c, .int .i64 d]) (.int .i64 2)).run Try.prog w = .ok (.int .i64 c) w := fun _ => by kernel_rfl
      have ix3 : ∀ w : World, (Instr.index 23 (.agg #[.int .i64 a, .int .i64 b, .int .i64 c, .int .i64 d]) (.int .i64 3)).run Try.prog w = .ok (.int .i64 d) w := fun _ => by kernel_rfl
      obtain ⟨j, hj, rfl, HI⟩ := hrel
      clear HI9
      rcases (show j = 0 ∨ j = 1 ∨ j = 2 ∨ j = 3 ∨ j = 4 from by omega) with rfl | rfl | rfl | rfl | rfl
      · go_wp2_with fail
        refine ((takes_out w3 w2.heap.size 0 97 #[.bool false, .bool false] base).int wr _ false a HI.out (by have := LN.out; have := LT.out; simp only [List.length_append, List.length_nil, List.take, List.flatMap_cons, List.flatMap_nil]; omega)).mono ?_
        rintro e w9 ⟨rfl, h⟩
        rw [FKa.out] at h
        have HI9 := Aside0.mk h
        clear h HI
        go_wp2_with fail
        go_roundw
        case rel => exact ⟨1, by omega, rfl, ⟨by have h := HI9.out; rw [List.append_assoc] at h; simpa only [List.take, List.flatMap_cons, List.flatMap_nil, List.append_nil, List.nil_append, List.append_assoc] using h⟩⟩
        case measure => simp [intOf]
      · go_wp2_with fail
        refine ((takes_out w3 w2.heap.size 0 97 #[.bool false, .bool false] base).int wr _ false b HI.out (by have := LN.out; have := LT.out; simp only [List.length_append, List.length_nil, List.take, List.flatMap_cons, List.flatMap_nil]; omega)).mono ?_
        rintro e w9 ⟨rfl, h⟩
        rw [FKb.out] at h
        have HI9 := Aside0.mk h
        clear h HI
        go_wp2_with fail
        go_roundw
        case rel => exact ⟨2, by omega, rfl, ⟨by have h := HI9.out; rw [List.append_assoc] at h; simpa only [List.take, List.flatMap_cons, List.flatMap_nil, List.append_nil, List.nil_append, List.append_assoc] using h⟩⟩
        case measure => simp [intOf]
      · go_wp2_with fail
        refine ((takes_out w3 w2.heap.size 0 97 #[.bool false, .bool false] base).int wr _ false c HI.out (by have := LN.out; have := LT.out; simp only [List.length_append, List.length_nil, List.take, List.flatMap_cons, List.flatMap_nil]; omega)).mono ?_
        rintro e w9 ⟨rfl, h⟩
        rw [FKc.out] at h
        have HI9 := Aside0.mk h
        clear h HI
        go_wp2_with fail
        go_roundw
        case rel => exact ⟨3, by omega, rfl, ⟨by have h := HI9.out; rw [List.append_assoc] at h; simpa only [List.take, List.flatMap_cons, List.flatMap_nil, List.append_nil, List.nil_append, List.append_assoc] using h⟩⟩
        case measure => simp [intOf]
      · go_wp2_with fail
        refine ((takes_out w3 w2.heap.size 0 97 #[.bool false, .bool false] base).int wr _ false d HI.out (by have := LN.out; have := LT.out; simp only [List.length_append, List.length_nil, List.take, List.flatMap_cons, List.flatMap_nil]; omega)).mono ?_
        rintro e w9 ⟨rfl, h⟩
        rw [FKd.out] at h
        have HI9 := Aside0.mk h
        clear h HI
        go_wp2_with fail
        go_roundw
        case rel => exact ⟨4, by omega, rfl, ⟨by have h := HI9.out; rw [List.append_assoc] at h; simpa only [List.take, List.flatMap_cons, List.flatMap_nil, List.append_nil, List.nil_append, List.append_assoc] using h⟩⟩
        case measure => simp [intOf]
      · have HBF := Aside0.mk (outI_below HB3.out HI.out (by omega) (by omega))
        have hl : [] ++ putL k ++ textL who ++ textL nm ++ textL ot ++ textL tx ++ textsL wd ++ ([a, b, c, d].take 4).flatMap putL = cmdL k who nm ot tx wd a b c d := by
          simp only [cmdL, List.take, List.flatMap_cons, List.flatMap_nil, List.append_nil, List.nil_append, List.append_assoc]
        have hi := HI.out
        rw [hl] at hi
        have HIF := Aside0.mk hi
        obtain ⟨S, hS⟩ : ∃ S, S = strOfNums (cmdL k who nm ot tx wd a b c d) := ⟨_, rfl⟩
        have hS2 : bytesR (cmdL k who nm ot tx wd a b c d) false = .tuple #[.string S, .bool true] := by rw [hS]; rfl
        have hS3 : putC k who nm ot tx wd a b c d = S := by rw [PC.out, hS]
        have HS2 := Aside0.mk hS2
        have HS3 := Aside0.mk hS3
        clear hS hS2 hS3 hi hl HI
        go_wp2_with fail
        refine (out_bytes _ _ _ _ _ _ _ _ (by exact HIF.out.1)).mono ?_
        rintro e w10 ⟨rfl, rfl⟩
        rw [HS2.out]
        go_wp2
        go_ret
        exact ⟨by rw [HS3.out]; rfl, HBF.out⟩
end Go.Proofs.Ytnajmemcdipknaa.PK
namespace Go.Proofs.Ytnajmemcdipknaa.PK
open Go.RowKit Go.Proofs.YtnajmemcdipknaaW.PrintWords Go.Proofs.YtnajmemcdipknaaW.PrintLast Go.Proofs.YtnajmemcdipknaaW.PrintMore
open Go.ChangeShapes Go.WideShapes
set_option linter.unusedVariables false
set_option linter.unusedSimpArgs false
set_option maxRecDepth 100000
theorem isEmpty_false {s : ByteArray} (h : ¬ s.size = 0) : s.toList.isEmpty = false := by
  cases hc : s.toList with
  | nil => exact absurd ((toList_nil_iff s).mp hc) h
  | cons a b => rfl
end Go.Proofs.Ytnajmemcdipknaa.PK
namespace Go.Proofs.Ytnajmemcdipknaa.PK
open Go.RowKit Go.Proofs.YtnajmemcdipknaaW.PrintWords Go.Proofs.YtnajmemcdipknaaW.PrintLast Go.Proofs.YtnajmemcdipknaaW.PrintMore
open Go.ChangeShapes Go.WideShapes
set_option linter.unusedVariables false
set_option linter.unusedSimpArgs false
set_option maxRecDepth 100000
theorem textL_small {t : ByteArray} (h : t.size ≤ 65536) : textL t = putL t.size ++ bytesOf t := by unfold textL; rw [if_neg (by omega)]
theorem str_text {t : ByteArray} (h : t.size ≤ 65536) : strOfNums (textL t) = strOfNums (putL t.size) ++ t := by rw [textL_small h, strOf_append, str_of_bytes]
theorem rtext_eq (t : ByteArray) (h : t.size ≤ 65536) (k : Nat) (hk : 11 ≤ k) : PC.primerref21_text.f k t = some (strOfNums (textL t)) := by
  unfold PC.primerref21_text.f
  have hp := putL_len t.size
  rw [refPut_eq t.size (by omega) k hk, Option.bind_some, if_pos (by rw [size_put]; omega), str_text h]
theorem rtexts_l0 (wd : List ByteArray) (hl : wd.length ≤ 4096) (hs : ∀ s ∈ wd, s.size ≤ 65536) (r : Nat) : ∀ (k i : Nat) (s : ByteArray), i + r = wd.length → r + 12 ≤ k → s.size ≤ 8 + 65544 * i → PC.primerref21_texts.l0 k wd s i = some (s ++ strOfNums ((wd.drop i).flatMap textL)) := by
  induction r with
  | zero =>
    intro k i s h1 hk hz
    obtain ⟨k, rfl⟩ : ∃ j, k = j + 1 := ⟨k - 1, by omega⟩
    simp only [PC.primerref21_texts.l0]
    rw [if_neg (by omega), List.drop_of_length_le (by omega)]
    have : strOfNums (([] : List ByteArray).flatMap textL) = ⟨#[]⟩ := rfl
    rw [this]
    congr 1
    apply bytesOf_inj
    rw [bytesOf_append]
    simp [bytesOf]
  | succ r ih =>
    intro k i s h1 hk hz
    obtain ⟨k, rfl⟩ : ∃ j, k = j + 1 := ⟨k - 1, by omega⟩
    have hi : i < wd.length := by omega
    have hrd : rdOf ByteArray.empty wd (i : Int) = wd[i] := by
      unfold rdOf
      rw [Int.toNat_natCast, List.getD_eq_getElem?_getD, List.getElem?_eq_getElem hi]
      rfl
    have hsz : wd[i].size ≤ 65536 := hs _ (List.getElem_mem hi)
    have htl := textL_len wd[i]
    simp only [PC.primerref21_texts.l0]
    rw [if_pos (by omega), if_pos (by omega), hrd, rtext_eq _ hsz k (by omega), Option.bind_some, if_pos (by rw [strOfNums_size]; omega), w64 _ (by omega) (by omega)]
    rw [show ((i : Int) + 1) = ((i + 1 : Nat) : Int) from rfl, ih k (i + 1) _ (by omega) (by omega) (by rw [size_app, strOfNums_size]; omega), List.drop_eq_getElem_cons hi, List.flatMap_cons, strOf_append, app_assoc]
theorem rtexts_eq (wd : List ByteArray) (hl : wd.length ≤ 4096) (hs : ∀ s ∈ wd, s.size ≤ 65536) (k : Nat) (hk : wd.length + 12 ≤ k) : PC.primerref21_texts.f k wd = some (strOfNums (textsL wd)) := by
  unfold PC.primerref21_texts.f
  have hp := putL_len wd.length
  rw [refPut_eq wd.length (by omega) k (by omega), Option.bind_some]
  have := rtexts_l0 wd hl hs wd.length k 0 (strOfNums (putL wd.length)) (by omega) hk (by rw [size_put]; omega)
  rw [show ((0 : Nat) : Int) = 0 from rfl] at this
  rw [this, List.drop_zero, ← strOf_append]
  rfl
end Go.Proofs.Ytnajmemcdipknaa.PK
namespace Go.Proofs.Ytnajmemcdipknaa.PK
open Go.RowKit Go.Proofs.YtnajmemcdipknaaW.PrintWords Go.Proofs.YtnajmemcdipknaaW.PrintLast Go.Proofs.YtnajmemcdipknaaW.PrintMore
open Go.ChangeShapes Go.WideShapes
set_option linter.unusedVariables false
set_option linter.unusedSimpArgs false
set_option maxRecDepth 100000
structure CmdV where
  k : Int
  who : ByteArray
  nm : ByteArray
  ot : ByteArray
  tx : ByteArray
  wd : List ByteArray
  a : Int
  b : Int
  c : Int
  d : Int
def zeroV : CmdV := ⟨0, ⟨#[]⟩, ⟨#[]⟩, ⟨#[]⟩, ⟨#[]⟩, [], 0, 0, 0, 0⟩
def rk (s : ByteArray) := inInt s 0
def r1 (s : ByteArray) := inText (rk s).2.1 (rk s).2.2
def r2 (s : ByteArray) := inText (r1 s).2.1 (r1 s).2.2
def r3 (s : ByteArray) := inText (r2 s).2.1 (r2 s).2.2
def r4 (s : ByteArray) := inText (r3 s).2.1 (r3 s).2.2
def r5 (s : ByteArray) := inTexts (r4 s).2.1 (r4 s).2.2 64
def r6 (s : ByteArray) := inInt (r5 s).2.1 (r5 s).2.2
def r7 (s : ByteArray) := inInt (r6 s).2.1 (r6 s).2.2
def r8 (s : ByteArray) := inInt (r7 s).2.1 (r7 s).2.2
def r9 (s : ByteArray) := inInt (r8 s).2.1 (r8 s).2.2
def readC (s : ByteArray) : CmdV := ⟨(rk s).1, (r1 s).1, (r2 s).1, (r3 s).1, (r4 s).1, (r5 s).1, (r6 s).1, (r7 s).1, (r8 s).1, (r9 s).1⟩
def goodV (x : CmdV) : Bool := goodC x.k x.who x.nm x.ot x.tx x.wd x.a x.b x.c x.d
def getC (s : ByteArray) : CmdV × Int :=
  if (r9 s).2.2 ≠ 0 then (zeroV, (r9 s).2.2) else if goodV (readC s) = false then (zeroV, 2) else if (r9 s).2.1.size = 0 then (readC s, 0) else (zeroV, 4)
/-- The cells of a command. -/
def cellsV (x : CmdV) (A : Option Addr) (cap : Nat) : Array Value := #[.int .i64 x.k, .string x.who, .string x.nm, .string x.ot, .string x.tx, .slice A x.wd.length cap, .int .i64 x.a, .int .i64 x.b, .int .i64 x.c, .int .i64 x.d]
/-- What a reader's walk carries: the result's block, the reader's, the command's. -/
structure GetSt (w W : World) (gr gi gc : Nat) (TC TI : TypeId) (s : ByteArray) (e : Int) (cs zs : Array Value) : Prop where
  i : W.heap[gi]? = some (.cells #[.string s, .int .i64 e] TI (0, 0))
  c : W.heap[gc]? = some (.cells cs TC (0, 0))
  r : W.heap[gr]? = some (.cells zs TC (0, 0))
  b : Below w.heap.size w W
  lr : w.heap.size ≤ gr
  li : w.heap.size ≤ gi
  lc : w.heap.size ≤ gc
  nic : gi ≠ gc
  nri : gr ≠ gi
  nrc : gr ≠ gc
section
variable {w W W' : World} {gr gi gc : Nat} {TC TI : TypeId} {s s' : ByteArray} {e e' : Int} {cs zs : Array Value}
theorem GetSt.call (h : GetSt w W gr gi gc TC TI s e cs zs) (hi : W'.heap[gi]? = some (.cells #[.string s', .int .i64 e'] TI (0, 0))) (hb : Below w.heap.size w W') (hk : KeepBut W W' gi none) : GetSt w W' gr gi gc TC TI s' e' cs zs :=
  ⟨hi, (hk.2 gc (blk_lt h.c) (fun e => h.nic e.symm) (by simp)).trans h.c, (hk.2 gr (blk_lt h.r) h.nri (by simp)).trans h.r, hb, h.lr, h.li, h.lc, h.nic, h.nri, h.nrc⟩
theorem GetSt.quiet (h : GetSt w W gr gi gc TC TI s e cs zs) (hb : Below W.heap.size W W') : GetSt w W' gr gi gc TC TI s e cs zs :=
  ⟨(hb.block gi (blk_lt h.i)).trans h.i, (hb.block gc (blk_lt h.c)).trans h.c, (hb.block gr (blk_lt h.r)).trans h.r, below_then h.b h.b.size hb, h.lr, h.li, h.lc, h.nic, h.nri, h.nrc⟩
theorem GetSt.store (h : GetSt w W gr gi gc TC TI s e cs zs) (i : Nat) (v : Value) : GetSt w (W.setCell ⟨gc, i, none⟩ v) gr gi gc TC TI s e (cs.setIfInBounds i v) zs := by
  have far : ∀ k, k ≠ gc → (W.setCell ⟨gc, i, none⟩ v).heap[k]? = W.heap[k]? := fun k hk => Below.heap_setCell W ⟨gc, i, none⟩ v k hk
  exact ⟨(far gi h.nic).trans h.i, Blk.set_ (show Blk W gc TC cs from h.c) i v, (far gr h.nrc).trans h.r, below_set h.b h.lc, h.lr, h.li, h.lc, h.nic, h.nri, h.nrc⟩
theorem row_call {T : TypeId} {base : Nat} {v : Value} {xs : List ByteArray} {cells : Array Value} (h : Kd.R Kd.string 9 W base (fun _ => True) v xs) (hi : W.heap[gi]? = some (.cells cells T (0, 0))) (hT : 9 ≠ T) (hk : KeepBut W W' gi none) : Kd.R Kd.string 9 W' base (fun _ => True) v xs :=
  Kd.R_mono (Kd.R_keep (Kd.R_types h hi (fun q hq => by
    rcases List.mem_cons.1 hq with rfl | hq
    · exact hT
    · exact absurd hq (by simp [Kd.string, Kd.scalar]))) hk (fun _ h => h.2)) (fun _ _ => trivial)
theorem row_store {T : TypeId} {base : Nat} {v : Value} {xs : List ByteArray} {cells : Array Value} (h : Kd.R Kd.string 9 W base (fun _ => True) v xs) (hc : W.heap[gc]? = some (.cells cells T (0, 0))) (hT : 9 ≠ T) (i : Nat) (u : Value) : Kd.R Kd.string 9 (W.setCell ⟨gc, i, none⟩ u) base (fun _ => True) v xs :=
  Kd.R_mono (Kd.R_far (Kd.R_types h hc (fun q hq => by
    rcases List.mem_cons.1 hq with rfl | hq
    · exact hT
    · exact absurd hq (by simp [Kd.string, Kd.scalar]))) (fun _ h => h.2) u) (fun _ _ => trivial)
end
/-- Ten cells are written. -/
theorem put10 {W : World} {g : Nat} {T : TypeId} {c0 c1 c2 c3 c4 c5 c6 c7 c8 c9 : Value} (h : W.heap[g]? = some (.cells #[c0, c1, c2, c3, c4, c5, c6, c7, c8, c9] T (0, 0))) (v0 v1 v2 v3 v4 v5 v6 v7 v8 v9 : Value) :
    ((((((((((W.setCell ⟨g, 0, none⟩ v0).setCell ⟨g, 1, none⟩ v1).setCell ⟨g, 2, none⟩ v2).setCell ⟨g, 3, none⟩ v3).setCell ⟨g, 4, none⟩ v4).setCell ⟨g, 5, none⟩ v5).setCell ⟨g, 6, none⟩ v6).setCell ⟨g, 7, none⟩ v7).setCell ⟨g, 8, none⟩ v8).setCell ⟨g, 9, none⟩ v9).heap[g]? = some (.cells #[v0, v1, v2, v3, v4, v5, v6, v7, v8, v9] T (0, 0)) := by
  have h0 : Blk (W.setCell ⟨g, 0, none⟩ v0) g T #[v0, c1, c2, c3, c4, c5, c6, c7, c8, c9] := Blk.set_ (show Blk W g T _ from h) 0 v0
  have h1 : Blk ((W.setCell ⟨g, 0, none⟩ v0).setCell ⟨g, 1, none⟩ v1) g T #[v0, v1, c2, c3, c4, c5, c6, c7, c8, c9] := Blk.set_ h0 1 v1
  have h2 : Blk (((W.setCell ⟨g, 0, none⟩ v0).setCell ⟨g, 1, none⟩ v1).setCell ⟨g, 2, none⟩ v2) g T #[v0, v1, v2, c3, c4, c5, c6, c7, c8, c9] := Blk.set_ h1 2 v2
  have h3 : Blk ((((W.setCell ⟨g, 0, none⟩ v0).setCell ⟨g, 1, none⟩ v1).setCell ⟨g, 2, none⟩ v2).setCell ⟨g, 3, none⟩ v3) g T #[v0, v1, v2, v3, c4, c5, c6, c7, c8, c9] := Blk.set_ h2 3 v3
  have h4 : Blk (((((W.setCell ⟨g, 0, none⟩ v0).setCell ⟨g, 1, none⟩ v1).setCell ⟨g, 2, none⟩ v2).setCell ⟨g, 3, none⟩ v3).setCell ⟨g, 4, none⟩ v4) g T #[v0, v1, v2, v3, v4, c5, c6, c7, c8, c9] := Blk.set_ h3 4 v4
  have h5 : Blk ((((((W.setCell ⟨g, 0, none⟩ v0).setCell ⟨g, 1, none⟩ v1).setCell ⟨g, 2, none⟩ v2).setCell ⟨g, 3, none⟩ v3).setCell ⟨g, 4, none⟩ v4).setCell ⟨g, 5, none⟩ v5) g T #[v0, v1, v2, v3, v4, v5, c6, c7, c8, c9] := Blk.set_ h4 5 v5
  have h6 : Blk (((((((W.setCell ⟨g, 0, none⟩ v0).setCell ⟨g, 1, none⟩ v1).setCell ⟨g, 2, none⟩ v2).setCell ⟨g, 3, none⟩ v3).setCell ⟨g, 4, none⟩ v4).setCell ⟨g, 5, none⟩ v5).setCell ⟨g, 6, none⟩ v6) g T #[v0, v1, v2, v3, v4, v5, v6, c7, c8, c9] := Blk.set_ h5 6 v6
  have h7 : Blk ((((((((W.setCell ⟨g, 0, none⟩ v0).setCell ⟨g, 1, none⟩ v1).setCell ⟨g, 2, none⟩ v2).setCell ⟨g, 3, none⟩ v3).setCell ⟨g, 4, none⟩ v4).setCell ⟨g, 5, none⟩ v5).setCell ⟨g, 6, none⟩ v6).setCell ⟨g, 7, none⟩ v7) g T #[v0, v1, v2, v3, v4, v5, v6, v7, c8, c9] := Blk.set_ h6 7 v7
  have h8 : Blk (((((((((W.setCell ⟨g, 0, none⟩ v0).setCell ⟨g, 1, none⟩ v1).setCell ⟨g, 2, none⟩ v2).setCell ⟨g, 3, none⟩ v3).setCell ⟨g, 4, none⟩ v4).setCell ⟨g, 5, none⟩ v5).setCell ⟨g, 6, none⟩ v6).setCell ⟨g, 7, none⟩ v7).setCell ⟨g, 8, none⟩ v8) g T #[v0, v1, v2, v3, v4, v5, v6, v7, v8, c9] := Blk.set_ h7 8 v8
  have h9 : Blk ((((((((((W.setCell ⟨g, 0, none⟩ v0).setCell ⟨g, 1, none⟩ v1).setCell ⟨g, 2, none⟩ v2).setCell ⟨g, 3, none⟩ v3).setCell ⟨g, 4, none⟩ v4).setCell ⟨g, 5, none⟩ v5).setCell ⟨g, 6, none⟩ v6).setCell ⟨g, 7, none⟩ v7).setCell ⟨g, 8, none⟩ v8).setCell ⟨g, 9, none⟩ v9) g T #[v0, v1, v2, v3, v4, v5, v6, v7, v8, v9] := Blk.set_ h8 9 v9
  exact h9
theorem put10_below {w W : World} {g : Nat} (h : Below w.heap.size w W) (hg : w.heap.size ≤ g) (v0 v1 v2 v3 v4 v5 v6 v7 v8 v9 : Value) : Below w.heap.size w ((((((((((W.setCell ⟨g, 0, none⟩ v0).setCell ⟨g, 1, none⟩ v1).setCell ⟨g, 2, none⟩ v2).setCell ⟨g, 3, none⟩ v3).setCell ⟨g, 4, none⟩ v4).setCell ⟨g, 5, none⟩ v5).setCell ⟨g, 6, none⟩ v6).setCell ⟨g, 7, none⟩ v7).setCell ⟨g, 8, none⟩ v8).setCell ⟨g, 9, none⟩ v9) :=
  (below_set (below_set (below_set (below_set (below_set (below_set (below_set (below_set (below_set (below_set h hg) hg) hg) hg) hg) hg) hg) hg) hg) hg)
theorem put10_far {W : World} {g : Nat} (v0 v1 v2 v3 v4 v5 v6 v7 v8 v9 : Value) (k : Nat) (hk : k ≠ g) : ((((((((((W.setCell ⟨g, 0, none⟩ v0).setCell ⟨g, 1, none⟩ v1).setCell ⟨g, 2, none⟩ v2).setCell ⟨g, 3, none⟩ v3).setCell ⟨g, 4, none⟩ v4).setCell ⟨g, 5, none⟩ v5).setCell ⟨g, 6, none⟩ v6).setCell ⟨g, 7, none⟩ v7).setCell ⟨g, 8, none⟩ v8).setCell ⟨g, 9, none⟩ v9).heap[k]? = W.heap[k]? := by
  simp only [Below.heap_setCell _ ⟨g, _, none⟩ _ k hk]
theorem put10_row {W : World} {g : Nat} {T : TypeId} {cells : Array Value} {base : Nat} {v : Value} {xs : List ByteArray} (h : Kd.R Kd.string 9 W base (fun _ => True) v xs) (hc : W.heap[g]? = some (.cells cells T (0, 0))) (hT : 9 ≠ T) (v0 v1 v2 v3 v4 v5 v6 v7 v8 v9 : Value) : Kd.R Kd.string 9 ((((((((((W.setCell ⟨g, 0, none⟩ v0).setCell ⟨g, 1, none⟩ v1).setCell ⟨g, 2, none⟩ v2).setCell ⟨g, 3, none⟩ v3).setCell ⟨g, 4, none⟩ v4).setCell ⟨g, 5, none⟩ v5).setCell ⟨g, 6, none⟩ v6).setCell ⟨g, 7, none⟩ v7).setCell ⟨g, 8, none⟩ v8).setCell ⟨g, 9, none⟩ v9) base (fun _ => True) v xs :=
  Kd.R_mono (Kd.R_step (Kd.R_types h hc (fun q hq => by
    rcases List.mem_cons.1 hq with rfl | hq
    · exact hT
    · exact absurd hq (by simp [Kd.string, Kd.scalar]))) (fun k hk _ => put10_far v0 v1 v2 v3 v4 v5 v6 v7 v8 v9 k hk.2)) (fun _ _ => trivial)
end Go.Proofs.Ytnajmemcdipknaa.PK
namespace Go.Proofs.Ytnajmemcdipknaa.PK
open Go.RowKit Go.Proofs.YtnajmemcdipknaaW.PrintWords Go.Proofs.YtnajmemcdipknaaW.PrintLast Go.Proofs.YtnajmemcdipknaaW.PrintMore
open Go.ChangeShapes Go.WideShapes
set_option linter.unusedVariables false
set_option linter.unusedSimpArgs false
set_option maxRecDepth 100000
theorem info9s : (Try.prog.info? 9).map (fun i => (i.zero, i.size, i.bytes)) = some (some (.string ByteArray.empty), 1, 16) := by kernel_rfl
theorem heap_drew' (W : World) (k : Nat) : W.drew.heap[k]? = W.heap[k]? := rfl
theorem heap_new' {W : World} {o : Obj} {n : Nat} (h : W.heap.size = n) : (W.alloc o).heap[n]? = some o := by subst h; exact heap_alloc_new W o
theorem own_C {W : World} {base : Nat} {B : Option Addr} {c1 : Nat} {wd : List ByteArray} (h : W.ownsRow base 9 1 (.slice B wd.length c1) wd.length (encs Value.string wd)) : Kd.C Kd.string W B wd.length wd ∧ wd.length ≤ c1 := by
  obtain ⟨B', c', he, hl, hR⟩ := own_reads_of_le (d := ByteArray.empty) h
  injection he with h1 h2 h3
  subst h1; subst h3
  exact ⟨Kd.C_of_reads (d := ByteArray.empty) hR, hl⟩
theorem boxes {W : World} {g g2 : Nat} {T T2 : TypeId} {c0 c1 c2 c3 c4 c5 c6 c7 c8 c9 d0 d1 d2 d3 d4 d5 d6 d7 d8 d9 : Value} (h : W.heap[g]? = some (.cells #[c0, c1, c2, c3, c4, c5, c6, c7, c8, c9] T (0, 0))) (h2 : W.heap[g2]? = some (.cells #[d0, d1, d2, d3, d4, d5, d6, d7, d8, d9] T2 (0, 0))) :
    W.cell? ⟨g, 0, none⟩ = some c0 ∧ W.cell? ⟨g, 1, none⟩ = some c1 ∧ W.cell? ⟨g, 2, none⟩ = some c2 ∧ W.cell? ⟨g, 3, none⟩ = some c3 ∧ W.cell? ⟨g, 4, none⟩ = some c4 ∧ W.cell? ⟨g, 5, none⟩ = some c5 ∧ W.cell? ⟨g, 6, none⟩ = some c6 ∧ W.cell? ⟨g, 7, none⟩ = some c7 ∧ W.cell? ⟨g, 8, none⟩ = some c8 ∧ W.cell? ⟨g, 9, none⟩ = some c9 ∧ W.cell? ⟨g2, 0, none⟩ = some d0 ∧ W.cell? ⟨g2, 1, none⟩ = some d1 ∧ W.cell? ⟨g2, 2, none⟩ = some d2 ∧ W.cell? ⟨g2, 3, none⟩ = some d3 ∧ W.cell? ⟨g2, 4, none⟩ = some d4 ∧ W.cell? ⟨g2, 5, none⟩ = some d5 ∧ W.cell? ⟨g2, 6, none⟩ = some d6 ∧ W.cell? ⟨g2, 7, none⟩ = some d7 ∧ W.cell? ⟨g2, 8, none⟩ = some d8 ∧ W.cell? ⟨g2, 9, none⟩ = some d9 := by
  refine ⟨?_, ?_, ?_, ?_, ?_, ?_, ?_, ?_, ?_, ?_, ?_, ?_, ?_, ?_, ?_, ?_, ?_, ?_, ?_, ?_⟩ <;> first | exact (blk_cell h _).trans rfl | exact (blk_cell h2 _).trans rfl
section
variable {k : Int} {who nm ot tx : ByteArray} {wd : List ByteArray} {a b c d : Int}
end
end Go.Proofs.Ytnajmemcdipknaa.PK
namespace Go.Proofs.Ytnajmemcdipknaa.PK
open Go.RowKit Go.Proofs.YtnajmemcdipknaaW.PrintWords Go.Proofs.YtnajmemcdipknaaW.PrintLast Go.Proofs.YtnajmemcdipknaaW.PrintMore
open Go.ChangeShapes Go.WideShapes
set_option linter.unusedVariables false
set_option linter.unusedSimpArgs false
set_option maxRecDepth 100000
def kF : Kd Nat := Kd.scalar (Value.float .f64) (fun _ => rfl)
theorem C_F {w : World} {A : Option Addr} {n : Nat} {xs : List Nat} (h : Kd.C kF w A n xs) (t : Nat) (ht : t < xs.length) : ∃ ad, A = some ad ∧ w.cell? (ad.add t) = some (.float .f64 xs[t]) := by
  have HR := Kd.reads_of_C (enc := Value.float .f64) (h1 := fun _ => rfl) (d := (0 : Nat)) h
  obtain ⟨ad, rfl, hc⟩ := HR.2.2 (by have := HR.1; omega)
  refine ⟨ad, rfl, ?_⟩
  rw [hc t (by have := HR.1; omega), List.getD_eq_getElem?_getD, List.getElem?_eq_getElem ht]
  rfl
def repL (code line col cnt : Int) (tx : ByteArray) (ts : List ByteArray) (ms : List Nat) : List Int :=
  [] ++ putL code ++ putL line ++ putL col ++ putL cnt ++ textL tx ++ textsL ts ++ textsL (ms.map putM)
def repBad (code line col cnt : Int) (tx : ByteArray) (ts : List ByteArray) (ms : List Nat) : Bool :=
  false || !fitsN code || !fitsN line || !fitsN col || !fitsN cnt || decide (65536 < tx.size) || badTexts ts || badTexts (ms.map putM)
def putR (code line col cnt : Int) (tx : ByteArray) (ts : List ByteArray) (ms : List Nat) : ByteArray :=
  if 4096 < ts.length ∨ 4096 < ms.length then ⟨#[]⟩ else if repBad code line col cnt tx ts ms then ⟨#[]⟩ else strOfNums (repL code line col cnt tx ts ms)
theorem ok_texts4096 {L T : Nat} (hL : L ≤ 300000000) (hT : T ≤ 4096) : ∀ m, m ≤ L + (65544 * T + 70000) → m ≤ 140737488355328 := by
  intro m hm
  have hX : 65544 * T ≤ 268468224 := by omega
  have : m ≤ 300000000 + (268468224 + 70000) := Nat.le_trans hm (Nat.add_le_add hL (Nat.add_le_add_right hX _))
  exact Nat.le_trans this (by decide)
set_option maxHeartbeats 6400000 in
theorem putReply_calls (code line col cnt : Int) (tx : ByteArray) (A : Option Addr) (cap : Nat) (ts : List ByteArray) (M : Option Addr) (capm : Nat) (ms : List Nat) (w : World) (hr : Kd.C Kd.string w A ts.length ts) (hm : Kd.C kF w M ms.length ms) (hms : ∀ x ∈ ms, x < 18446744073709551616) :
    Calls Try.prog 24 #[.agg #[.int .i64 code, .int .i64 line, .int .i64 col, .int .i64 cnt, .string tx, .slice A ts.length cap, .slice M ms.length capm]] w fun e w' => e = .returned (.string (putR code line col cnt tx ts ms)) ∧ Below w.heap.size w w' := by
  have hu := Try.underlying44
  have HR := Aside0.mk hr
  have HM := Aside0.mk hm
  have HMS := Aside0.mk hms
  have HB1 := Aside0.mk (below_alloc (Below.refl w.heap.size w) (.cells #[.int .i64 code, .int .i64 line, .int .i64 col, .int .i64 cnt, .string tx, .slice A ts.length cap, .slice M ms.length capm] 44))
  clear hr hm hms
  by_cases c1 : 4096 < ts.length
  · have e1 : decide ((4096 : Int) < (ts.length : Int)) = true := by simp; omega
    have PC : Aside0 (putR code line col cnt tx ts ms = ⟨#[]⟩) := ⟨by unfold putR; rw [if_pos (.inl c1)]⟩
    clear c1
    go_enter Try.func24, Try.ntmps24
    go_wp2
    go_ret
    exact ⟨by rw [PC.out]; rfl, HB1.out⟩
  have e1 : decide ((4096 : Int) < (ts.length : Int)) = false := by simp; omega
  by_cases c2 : 4096 < ms.length
  · have e2 : decide ((4096 : Int) < (ms.length : Int)) = true := by simp; omega
    have PC : Aside0 (putR code line col cnt tx ts ms = ⟨#[]⟩) := ⟨by unfold putR; rw [if_pos (.inr c2)]⟩
    clear c1 c2
    go_enter Try.func24, Try.ntmps24
    go_wp2
    go_ret
    exact ⟨by rw [PC.out]; rfl, HB1.out⟩
  have e2 : decide ((4096 : Int) < (ms.length : Int)) = false := by simp; omega
  have PC : Aside0 (putR code line col cnt tx ts ms = if repBad code line col cnt tx ts ms then ⟨#[]⟩ else strOfNums (repL code line col cnt tx ts ms)) := ⟨by unfold putR; rw [if_neg (by omega)]⟩
  have LT : Aside0 (ts.length ≤ 4096) := ⟨by omega⟩
  have LM : Aside0 (ms.length ≤ 4096) := ⟨by omega⟩
  have LN : Aside0 ((putL code).length ≤ 8 ∧ (putL line).length ≤ 8 ∧ (putL col).length ≤ 8 ∧ (putL cnt).length ≤ 8 ∧ (textL tx).length ≤ 65544 ∧ (textsL ts).length ≤ 270000000) :=
    ⟨putL_len code, putL_len line, putL_len col, putL_len cnt, textL_len tx, by have := textsL_len ts; omega⟩
  clear c1 c2
  go_enter Try.func24, Try.ntmps24
  go_wp2_with fail
  obtain ⟨w3, hw3⟩ : ∃ w3, w3 = (w.alloc (.cells #[.int .i64 code, .int .i64 line, .int .i64 col, .int .i64 cnt, .string tx, .slice A ts.length cap, .slice M ms.length capm] 44)).alloc (.cells #[.slice none 0 0, .bool false] 97) := ⟨_, rfl⟩
  have hst : OutI w3 (w.heap.size + 1) 0 97 #[.bool false, .bool false] (w.heap.size + 2) w3 ([]) (false) := ⟨OutB.new _ _ _ _ (by decide) (by rw [hw3]; exact heap_new' (by simp)), OutK.refl _ _ _, by rw [hw3]; simp⟩
  have HB3 := Aside0.mk (show Below w.heap.size w w3 from by rw [hw3]; exact below_alloc HB1.out _)
  have BX := Aside0.mk (show w3.heap[w.heap.size]? = some (.cells #[.int .i64 code, .int .i64 line, .int .i64 col, .int .i64 cnt, .string tx, .slice A ts.length cap, .slice M ms.length capm] 44 (0, 0)) from by rw [hw3]; exact (heap_alloc_old _ _ (by simp)).trans (heap_new' rfl))
  simp only [← hw3]
  have HI0 := Aside0.mk hst
  have BX0 := BX
  clear hst hw3
  have hz0 : w3.cell? ⟨w.heap.size, 0, none⟩ = some (.int .i64 code) := (blk_cell BX0.out 0).trans rfl
  go_wp2_with fail
  clear hz0
  with_reducible refine ((takes_out w3 (w.heap.size + 1) 0 97 #[.bool false, .bool false] (w.heap.size + 2)).int w3 (([] : List Int)) (false) code HI0.out (by simp only [List.length_append, List.length_nil]; have := LN.out; omega)).mono ?_
  rintro e v0 ⟨rfl, h⟩
  have HI1 := Aside0.mk h
  have BX1 := Aside0.mk ((h.2.1.old w.heap.size (by omega) (by omega)).trans BX.out)
  clear h HI0
  have hz1 : v0.cell? ⟨w.heap.size, 1, none⟩ = some (.int .i64 line) := (blk_cell BX1.out 1).trans rfl
  go_wp2_with fail
  clear hz1
  with_reducible refine ((takes_out w3 (w.heap.size + 1) 0 97 #[.bool false, .bool false] (w.heap.size + 2)).int v0 (([] : List Int) ++ putL code) (false || !fitsN code) line HI1.out (by simp only [List.length_append, List.length_nil]; have := LN.out; omega)).mono ?_
  rintro e v1 ⟨rfl, h⟩
  have HI2 := Aside0.mk h
  have BX2 := Aside0.mk ((h.2.1.old w.heap.size (by omega) (by omega)).trans BX.out)
  clear h HI1
  have hz2 : v1.cell? ⟨w.heap.size, 2, none⟩ = some (.int .i64 col) := (blk_cell BX2.out 2).trans rfl
  go_wp2_with fail
  clear hz2
  with_reducible refine ((takes_out w3 (w.heap.size + 1) 0 97 #[.bool false, .bool false] (w.heap.size + 2)).int v1 (([] : List Int) ++ putL code ++ putL line) (false || !fitsN code || !fitsN line) col HI2.out (by simp only [List.length_append, List.length_nil]; have := LN.out; omega)).mono ?_
  rintro e v2 ⟨rfl, h⟩
  have HI3 := Aside0.mk h
  have BX3 := Aside0.mk ((h.2.1.old w.heap.size (by omega) (by omega)).trans BX.out)
  clear h HI2
  have hz3 : v2.cell? ⟨w.heap.size, 3, none⟩ = some (.int .i64 cnt) := (blk_cell BX3.out 3).trans rfl
  go_wp2_with fail
  clear hz3
  with_reducible refine ((takes_out w3 (w.heap.size + 1) 0 97 #[.bool false, .bool false] (w.heap.size + 2)).int v2 (([] : List Int) ++ putL code ++ putL line ++ putL col) (false || !fitsN code || !fitsN line || !fitsN col) cnt HI3.out (by simp only [List.length_append, List.length_nil]; have := LN.out; omega)).mono ?_
  rintro e v3 ⟨rfl, h⟩
  have HI4 := Aside0.mk h
  have BX4 := Aside0.mk ((h.2.1.old w.heap.size (by omega) (by omega)).trans BX.out)
  clear h HI3
  have hz4 : v3.cell? ⟨w.heap.size, 4, none⟩ = some (.string tx) := (blk_cell BX4.out 4).trans rfl
  go_wp2_with fail
  clear hz4
  with_reducible refine ((takes_out w3 (w.heap.size + 1) 0 97 #[.bool false, .bool false] (w.heap.size + 2)).text v3 (([] : List Int) ++ putL code ++ putL line ++ putL col ++ putL cnt) (false || !fitsN code || !fitsN line || !fitsN col || !fitsN cnt) tx HI4.out (by simp only [List.length_append, List.length_nil]; have := LN.out; omega)).mono ?_
  rintro e v4 ⟨rfl, h⟩
  have HI5 := Aside0.mk h
  have BX5 := Aside0.mk ((h.2.1.old w.heap.size (by omega) (by omega)).trans BX.out)
  clear h HI4
  have hz5 : v4.cell? ⟨w.heap.size, 5, none⟩ = some (.slice A ts.length cap) := (blk_cell BX5.out 5).trans rfl
  go_wp2_with fail
  clear hz5
  refine (out_texts (takes_out w3 (w.heap.size + 1) 0 97 #[.bool false, .bool false] (w.heap.size + 2)) A cap ts (([] : List Int) ++ putL code ++ putL line ++ putL col ++ putL cnt ++ textL tx) (false || !fitsN code || !fitsN line || !fitsN col || !fitsN cnt || decide (65536 < tx.size)) v4 HI5.out (fun w' _ _ h => Kd.C_below HR.out (outI_below HB3.out h (by omega) (by omega))) (ok_texts4096 (by simp only [List.length_append, List.length_nil]; have := LN.out; omega) LT.out) ⟨_, rfl⟩).mono ?_
  rintro e v5 ⟨rfl, h⟩
  have HI6 := Aside0.mk h
  have BX6 := Aside0.mk ((h.2.1.old w.heap.size (by omega) (by omega)).trans BX.out)
  clear h HI5
  have hz6 : v5.cell? ⟨w.heap.size, 6, none⟩ = some (.slice M ms.length capm) := (blk_cell BX6.out 6).trans rfl
  go_wp2_with fail
  clear hz6
  obtain ⟨xs, hxs⟩ : ∃ xs, ms.map putM = xs := ⟨_, rfl⟩
  have hlen : xs.length = ms.length := by rw [← hxs, List.length_map]
  have HXS := Aside0.mk hxs
  have HLEN := Aside0.mk hlen
  have HOB := Aside0.mk HI6.out.1
  have HBB := Aside0.mk (outI_below HB3.out HI6.out (by omega) (by omega))
  have HSZ := Aside0.mk HI6.out.2.2
  clear hxs hlen HI6 BX6 BX5 BX4 BX3 BX2 BX1 BX0
  go_loopw [4, 40] (fun l i wr => ∃ j : Nat, j ≤ ms.length ∧ i = .int .i64 j ∧ Aside0 (OutB wr (w.heap.size + 1) 0 97 #[.bool false, .bool false] (w.heap.size + 2) (([] : List Int) ++ putL code ++ putL line ++ putL col ++ putL cnt ++ textL tx ++ textsL ts) (false || !fitsN code || !fitsN line || !fitsN col || !fitsN cnt || decide (65536 < tx.size) || badTexts ts)) ∧ Aside0 (wr.ownsRow w.heap.size 9 1 l j (encs Value.string (xs.take j))) ∧ Aside0 (Below w.heap.size w wr) ∧ Aside0 ((w.heap.size + 2) ≤ wr.heap.size)) (fun _ i _ => ms.length - (intOf i).toNat)
  case atStart => exact ⟨0, Nat.zero_le _, rfl, HOB, ⟨own_nil _ _ _ _⟩, HBB, HSZ⟩
  case round =>
    obtain ⟨j, hj, rfl, HO, HW, HB, HS⟩ := hrel
    clear HOB HBB HSZ
    by_cases hjn : j < ms.length
    · have hmx := HM.out.2.1
      obtain ⟨ad, rfl, hcell⟩ := C_F (Kd.C_below HM.out HB.out) j hjn
      have hd : decide ((j : Int) < (ms.length : Int)) = true := by simp; omega
      have hx : ms[j] < 18446744073709551616 := HMS.out _ (List.getElem_mem hjn)
      have hxj : xs[j]'(by have := HLEN.out; omega) = putM ms[j] := by
        have h := HXS.out
        subst h
        simp
      obtain ⟨x, hxx⟩ : ∃ x, ms[j] = x := ⟨_, rfl⟩
      rw [hxx] at hx hcell hxj
      have HX := Aside0.mk hx
      have HTK := Aside0.mk (show xs.take (j + 1) = xs.take j ++ [putM x] from by rw [List.take_succ_eq_append_getElem (by have := HLEN.out; omega), hxj])
      have HJL := Aside0.mk (show (xs.take j).length = j from by rw [List.length_take]; have := HLEN.out; omega)
      clear hxx hx hxj
      go_wp2_with fail
      (with_reducible refine (mput_calls x HX.out _).mono ?_)
      rintro e w4 ⟨rfl, hb4⟩
      have HO4 := Aside0.mk (HO.out.below hb4)
      have HW4 := Aside0.mk (pw_own_below HW.out hb4)
      have HB4 := Aside0.mk (below_then HB.out HB.out.size hb4)
      have HS4 := Aside0.mk (Nat.le_trans HS.out hb4.size)
      clear hb4 hcell HO HW HB
      go_wp2_with (at_builtin; (refine print_append_of (w0 := w) Value.string w.heap.size rfl (.tmp 44) (.tmp 47) 22 9 (.string ByteArray.empty) 16 rfl Try.underlying22 info9s rfl (by decide) _ (xs.take j) (putM x) rfl rfl rfl (own_len HW4.out HJL.out.symm) HB4.out HB4.out.size (by have := HJL.out; have := LM.out; omega) ?_); intro v5' w5 ho hbl hg _; have HO5 := Aside0.mk (HO4.out.grown hg rfl HW4.out (by decide) (by decide)); have HW5 := Aside0.mk ho; have HB5 := Aside0.mk hbl; have HS5 := Aside0.mk (Nat.le_trans HS4.out hg.size); clear ho hbl hg)
      go_roundw
      case rel => exact ⟨j + 1, by omega, by go_num, HO5, ⟨by rw [HTK.out]; exact own_len HW5.out (by rw [List.length_append, HJL.out]; rfl)⟩, HB5, HS5⟩
      case measure => simp [intOf]; omega
    · obtain rfl : ms.length = j := by omega
      have hd : decide ((ms.length : Int) < (ms.length : Int)) = false := by simp
      have hfull : xs.take ms.length = xs := List.take_of_length_le (by have := HLEN.out; omega)
      have hw := HW.out
      rw [hfull] at hw
      obtain ⟨B, c1, rfl, _⟩ := own_reads_of (d := ByteArray.empty) hw
      have HWF := Aside0.mk hw
      clear hw hfull HW
      have hw2 : wr.ownsRow w.heap.size 9 1 (.slice B xs.length c1) xs.length (encs Value.string xs) := by rw [HLEN.out]; exact HWF.out
      obtain ⟨cs', hblk⟩ := HO.out.blk
      have hT := out_texts (takes_out wr (w.heap.size + 1) 0 97 #[.bool false, .bool false] (w.heap.size + 2)) B c1 xs (([] : List Int) ++ putL code ++ putL line ++ putL col ++ putL cnt ++ textL tx ++ textsL ts) (false || !fitsN code || !fitsN line || !fitsN col || !fitsN cnt || decide (65536 < tx.size) || badTexts ts) wr ⟨HO.out, OutK.refl _ _ _, HS.out⟩ (fun w' _ _ h => (own_C (h.2.1.own hblk hw2 (by decide) (by decide))).1) (ok_texts4096 (by simp only [List.length_append, List.length_nil]; have := LN.out; omega) (by have := LM.out; have := HLEN.out; omega)) ⟨_, rfl⟩
      rw [HLEN.out] at hT
      have HT := Aside0.mk hT
      obtain ⟨S, hS⟩ : ∃ S, putR code line col cnt tx ts ms = S := ⟨_, rfl⟩
      have hR : bytesR ((([] : List Int) ++ putL code ++ putL line ++ putL col ++ putL cnt ++ textL tx ++ textsL ts) ++ textsL xs) ((false || !fitsN code || !fitsN line || !fitsN col || !fitsN cnt || decide (65536 < tx.size) || badTexts ts) || badTexts xs) = .tuple #[.string S, .bool (!((false || !fitsN code || !fitsN line || !fitsN col || !fitsN cnt || decide (65536 < tx.size) || badTexts ts) || badTexts xs))] := by
        rw [← hS, PC.out, ← HXS.out]; rfl
      obtain ⟨ok, hok⟩ : ∃ ok, (!((false || !fitsN code || !fitsN line || !fitsN col || !fitsN cnt || decide (65536 < tx.size) || badTexts ts) || badTexts xs)) = ok := ⟨_, rfl⟩
      rw [hok] at hR
      have HRR := Aside0.mk hR
      have HSS := Aside0.mk hS
      clear hT hw2 hblk hS hR hok
      go_wp2_with fail
      refine HT.out.mono ?_
      rintro e w6 ⟨rfl, h⟩
      have HIF := Aside0.mk h
      clear h
      go_wp2_with fail
      refine (out_bytes _ _ _ _ _ _ _ _ (by exact HIF.out.1)).mono ?_
      rintro e w7 ⟨rfl, rfl⟩
      rw [HRR.out]
      have HBF := Aside0.mk (outI_below HB.out HIF.out (by omega) (by omega))
      go_wp2
      go_ret
      exact ⟨by rw [HSS.out]; rfl, HBF.out⟩
end Go.Proofs.Ytnajmemcdipknaa.PK
