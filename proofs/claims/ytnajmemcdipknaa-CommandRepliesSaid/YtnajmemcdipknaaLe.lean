/- Reading, in plain words: what the program's In and the document's In tell is the same function. Condition: the bytes are no more than 2^47.
Small contracts and words for the walks of the laws: Err, End; an element that is read; what stays where something else is written. Condition: none.
Names and function values: IndexFunc and ContainsFunc over texts, with a test that changes nothing. Condition: none.
Functions of the given program as plain Lean functions, and that the Go code answers what they tell (a law's row: the given statement, out of its plain form). Conditions: none beyond each theorem's own premises. Written by this repo's program wip/myprint.py.
Lists written to an Out: its two loops, for any holder that takes numbers and texts. Conditions: none, but what the holder asks.
Items written: to no Out, to an Out; what an item's bytes are. Conditions: what an Out holds stays below 2^47 bytes. -/
import Derived.Test.YtnajmemcdipknaaLd
import Derived.Test.YtnajmemcdipknaaLb
import Derived.Test.YtnajmemcdipknaaLc
import Derived.Test.YtnajmemcdipknaaProg
import Derived.Below
import Derived.Deep.Draws
import Derived.Deep.AppendLies
import Derived.Maps.AppendAt
import Derived.OwnWalk
import Derived.Laws.BytesArg
import Derived.Laws.MakeOwn
import Derived.Laws.OwnMore
import Derived.Deep.OwnRows
import Derived.Tactics
import Derived.Lib.ConvBytes
import Derived.Laws.Slices
import Derived.WalkKit
import Derived.KernelRfl
import Derived.RowKit3
import Derived.Deep.LoopGhost
import Derived.Deep.QuietTactic
import Derived.BigQuiet
import Derived.WideLaws
import Derived.Deep.DeepCutAuto
import Derived.Deep.CutBlock
import Derived.Deep.RegionHeld3
import Derived.Laws.Rows
import Derived.Lib.AppendStr
import Derived.ArgAppend
import Derived.Laws.IdiomCopy
import Derived.OrdersHeld
import Derived.Laws.BitsLemmas
import Derived.RowKit
import Derived.Test.YtnajmemcdipknaaLa
import Derived.Test.YtnajmemcdipknaaWWords
import Derived.Test.YtnajmemcdipknaaWLast
import Derived.Test.YtnajmemcdipknaaWTab
import Derived.Test.YtnajmemcdipknaaWFour
import Derived.Test.YtnajmemcdipknaaWQPut
import Derived.Test.YtnajmemcdipknaaWApart
import Derived.Test.YtnajmemcdipknaaWArr
import Derived.Test.YtnajmemcdipknaaWZeros
import Derived.Test.YtnajmemcdipknaaWFoot
import Derived.Test.YtnajmemcdipknaaWKept
import Derived.Test.YtnajmemcdipknaaWShare
import Derived.Test.YtnajmemcdipknaaWN
import Derived.Test.YtnajmemcdipknaaWFootNe
import Derived.Test.YtnajmemcdipknaaWAt
import Derived.Test.YtnajmemcdipknaaWEqStruct
import Derived.Test.YtnajmemcdipknaaWRepsOne
import Derived.Test.YtnajmemcdipknaaWInv
import Derived.Test.YtnajmemcdipknaaWInvWords
import Derived.Test.YtnajmemcdipknaaWGuard
import Derived.Test.YtnajmemcdipknaaWNEv
import Derived.Test.YtnajmemcdipknaaWMore
namespace Go.Proofs.Ytnajmemcdipknaa.PK
open Go.RowKit Go.Proofs.YtnajmemcdipknaaW.PrintWords Go.Proofs.YtnajmemcdipknaaW.PrintLast Go.Proofs.YtnajmemcdipknaaW.PrintMore
set_option linter.unusedVariables false
set_option linter.unusedSimpArgs false
set_option maxRecDepth 100000
def inInt (s : ByteArray) (e : Int) : Int × ByteArray × Int :=
  if e = 0 then (if (getA s).2.2 = 0 then ((getA s).1, s.extract (getA s).2.1.toNat s.size, 0) else (0, s, (getA s).2.2)) else (0, s, e)
theorem getA_ok (s : ByteArray) (h : (getA s).2.2 = 0) : 1 ≤ (getA s).2.1 ∧ (getA s).2.1 ≤ s.size ∧ (getA s).2.1 ≤ 8 ∧ -9007199254740992 ≤ (getA s).1 ∧ (getA s).1 ≤ 9007199254740992 ∧ putL (getA s).1 = (bytesOf s).take (getA s).2.1.toNat := by
  have := put_get s (getA s).1 (getA s).2.1 (by rw [← h])
  exact ⟨this.2.1, this.2.2.1, this.2.2.2.1, this.2.2.2.2.1, this.2.2.2.2.2, this.1⟩
theorem ext_size (s : ByteArray) (k : Nat) : (s.extract k s.size).size = s.size - k := by
  rw [← bytesOf_len, bytesOf_extract, ← bytesOf_len]; simp
theorem ext0_size (s : ByteArray) (k : Nat) (h : k ≤ s.size) : (s.extract 0 k).size = k := by
  rw [← bytesOf_len, bytesOf_extract]; simp [bytesOf_len]; omega
theorem inInt_size (s : ByteArray) (e : Int) : (inInt s e).2.1.size ≤ s.size := by
  unfold inInt
  split
  · split
    · show (s.extract _ s.size).size ≤ _; rw [ext_size]; omega
    · exact Nat.le_refl _
  · exact Nat.le_refl _
theorem inInt_err (s : ByteArray) (e : Int) (h : (inInt s e).2.2 ≠ 0) : (inInt s e).1 = 0 := by
  unfold inInt at h ⊢
  split
  · split
    · rename_i h1 h2; rw [if_pos h1, if_pos h2] at h; exact absurd rfl h
    · rfl
  · rfl
theorem In_Int_eq (s : ByteArray) (e : Int) : octets_In_Int.f s e = some (inInt s e) := by
  unfold octets_In_Int.f octets_In_ready.f inInt
  simp only [Option.bind_some]
  by_cases h : e = 0
  · subst h
    unfold octets_Get.f octets_In_fail.f
    simp only [beq_self_eq_true, if_true, Option.bind_some]
    by_cases h2 : (getA s).2.2 = 0
    · have := getA_ok s h2
      rw [if_pos h2, if_pos h2, if_pos (by omega), if_pos (by omega)]
    · rw [if_neg h2, if_neg h2]
  · have : (e == 0) = false := by rw [beq_eq_false_iff_ne]; exact h
    rw [this, if_neg h]
    rfl
/-- The error that a length's number is. -/
def sizeErr (n most : Int) : Int := if n < 0 then 2 else if n > most ∨ n > 65536 then 6 else 0
def inSize (s : ByteArray) (e most : Int) : Int × ByteArray × Int :=
  if (inInt s e).2.2 = 0 then (if sizeErr (inInt s e).1 most = 0 then (inInt s e).1 else 0, (inInt s e).2.1, sizeErr (inInt s e).1 most) else (0, (inInt s e).2.1, (inInt s e).2.2)
theorem inSize_ok (s : ByteArray) (e most : Int) (h : (inSize s e most).2.2 = 0) : 0 ≤ (inSize s e most).1 ∧ (inSize s e most).1 ≤ 65536 ∧ (inSize s e most).1 ≤ most := by
  unfold inSize at h ⊢
  split at h
  · rename_i h1
    have h' : sizeErr (inInt s e).1 most = 0 := h
    rw [if_pos h1]
    show 0 ≤ (if sizeErr (inInt s e).1 most = 0 then (inInt s e).1 else 0) ∧ (if sizeErr (inInt s e).1 most = 0 then (inInt s e).1 else 0) ≤ 65536 ∧ (if sizeErr (inInt s e).1 most = 0 then (inInt s e).1 else 0) ≤ most
    rw [if_pos h']
    unfold sizeErr at h'
    split at h'
    · omega
    · split at h' <;> omega
  · rename_i h1
    exact absurd h h1
theorem inSize_err (s : ByteArray) (e most : Int) (h : (inSize s e most).2.2 ≠ 0) : (inSize s e most).1 = 0 := by
  unfold inSize at h ⊢
  split
  · rename_i h1
    rw [if_pos h1] at h
    exact if_neg h
  · rfl
theorem inSize_size (s : ByteArray) (e most : Int) : (inSize s e most).2.1.size ≤ s.size := by
  unfold inSize
  have := inInt_size s e
  split <;> exact this
theorem In_size_eq (s : ByteArray) (e most : Int) (k : Nat) (hk : 1 ≤ k) : octets_In_size.f k s e most = some (inSize s e most) := by
  obtain ⟨k, rfl⟩ : ∃ j, k = j + 1 := ⟨k - 1, by omega⟩
  unfold octets_In_size.f
  rw [In_Int_eq, Option.bind_some]
  have herr := inInt_err s e
  unfold inSize
  generalize inInt s e = r at herr ⊢
  obtain ⟨n, s1, e1⟩ := r
  simp only at herr ⊢
  unfold octets_In_fail.f octets_In_ready.f
  by_cases h1 : e1 = 0
  · subst h1
    simp only [if_true, Option.bind_some]
    by_cases h2 : n < 0
    · have : sizeErr n most = 2 := by unfold sizeErr; rw [if_pos h2]
      rw [if_pos h2, this]
      simp
    · rw [if_neg h2]
      by_cases h3 : n > most
      · have : sizeErr n most = 6 := by unfold sizeErr; rw [if_neg h2, if_pos (.inl h3)]
        rw [if_pos h3, this]
        simp [octets_In_size.j0, octets_In_fail.f, octets_In_ready.f]
      · rw [if_neg h3]
        by_cases h4 : n > 65536
        · have : sizeErr n most = 6 := by unfold sizeErr; rw [if_neg h2, if_pos (.inr h4)]
          have hd : decide (n > 65536) = true := by simp; omega
          rw [this, hd]
          simp [octets_In_size.j0, octets_In_fail.f, octets_In_ready.f]
        · have : sizeErr n most = 0 := by unfold sizeErr; rw [if_neg h2, if_neg (by omega)]
          have hd : decide (n > 65536) = false := by simp; omega
          rw [this, hd]
          simp [octets_In_size.j0, octets_In_fail.f, octets_In_ready.f]
  · have hn : n = 0 := herr h1
    subst hn
    have hb : (e1 == 0) = false := by rw [beq_eq_false_iff_ne]; exact h1
    rw [if_neg (by omega), if_neg h1]
    by_cases h3 : (0 : Int) > most
    · rw [if_pos h3]
      simp [octets_In_size.j0, octets_In_fail.f, octets_In_ready.f, h1, hb]
    · rw [if_neg h3]
      simp [octets_In_size.j0, octets_In_fail.f, octets_In_ready.f, h1, hb]
def inText (s : ByteArray) (e : Int) : ByteArray × ByteArray × Int :=
  if (inSize s e 65536).2.2 = 0 then
    (if (inSize s e 65536).1 > ((inSize s e 65536).2.1.size : Int) then ((⟨#[]⟩ : ByteArray), (inSize s e 65536).2.1, 3)
     else ((inSize s e 65536).2.1.extract 0 (inSize s e 65536).1.toNat, (inSize s e 65536).2.1.extract (inSize s e 65536).1.toNat (inSize s e 65536).2.1.size, 0))
  else ((⟨#[]⟩ : ByteArray), (inSize s e 65536).2.1, (inSize s e 65536).2.2)
theorem inSize_stop (s : ByteArray) (e most : Int) (h : e ≠ 0) : inSize s e most = (0, s, e) := by
  have : inInt s e = (0, s, e) := by unfold inInt; rw [if_neg h]
  unfold inSize
  rw [this, if_neg h]
theorem inText_stop (s : ByteArray) (e : Int) (h : e ≠ 0) : inText s e = (⟨#[]⟩, s, e) := by
  unfold inText
  rw [inSize_stop s e _ h, if_neg h]
theorem inText_size (s : ByteArray) (e : Int) : (inText s e).2.1.size ≤ s.size ∧ (inText s e).1.size ≤ 65536 := by
  have h := inSize_size s e 65536
  have h0 := inSize_ok s e 65536
  unfold inText
  split
  · rename_i h1
    have := h0 h1
    split
    · exact ⟨h, Nat.zero_le _⟩
    · refine ⟨?_, ?_⟩
      · show ((inSize s e 65536).2.1.extract _ (inSize s e 65536).2.1.size).size ≤ _
        rw [ext_size]; omega
      · show ((inSize s e 65536).2.1.extract 0 _).size ≤ _
        rw [ext0_size _ _ (by omega)]; omega
  · exact ⟨h, Nat.zero_le _⟩
theorem In_Text_eq (s : ByteArray) (e : Int) (k : Nat) (hk : 1 ≤ k) : octets_In_Text.f k s e = some (inText s e) := by
  unfold octets_In_Text.f octets_In_ready.f
  simp only [Option.bind_some]
  by_cases h : e = 0
  · subst h
    simp only [beq_self_eq_true, if_true]
    rw [In_size_eq s 0 65536 k hk, Option.bind_some]
    obtain ⟨k, rfl⟩ : ∃ j, k = j + 1 := ⟨k - 1, by omega⟩
    have h0 := inSize_ok s 0 65536
    have hsz := inSize_size s 0 65536
    unfold inText
    generalize inSize s 0 65536 = r at h0 hsz ⊢
    obtain ⟨n, s1, e1⟩ := r
    simp only at h0 hsz ⊢
    simp only [octets_In_Text.j0, octets_In_ready.f, octets_In_fail.f, Option.bind_some]
    by_cases h1 : e1 = 0
    · subst h1
      have := h0 rfl
      simp only [beq_self_eq_true, if_true, Option.bind_some]
      by_cases h2 : n > (s1.size : Int)
      · rw [if_pos h2, if_pos h2]
      · rw [if_neg h2, if_neg h2, if_pos (by omega), if_pos (by omega)]
    · have hb : (e1 == 0) = false := by rw [beq_eq_false_iff_ne]; exact h1
      simp [hb, h1]
  · have hb : (e == 0) = false := by rw [beq_eq_false_iff_ne]; exact h
    obtain ⟨k, rfl⟩ : ∃ j, k = j + 1 := ⟨k - 1, by omega⟩
    rw [inText_stop s e h]
    simp [octets_In_Text.j0, octets_In_ready.f, octets_In_fail.f, hb]
/-- So many of them, one behind the other; none where one fails. -/
def seqL {α : Type} (f : ByteArray → α × ByteArray × Int) : Nat → ByteArray → List α × ByteArray × Int
  | 0, s => ([], s, 0)
  | n + 1, s =>
    if (f s).2.2 = 0 then
      (if (seqL f n (f s).2.1).2.2 = 0 then ((f s).1 :: (seqL f n (f s).2.1).1, (seqL f n (f s).2.1).2.1, 0) else ([], (seqL f n (f s).2.1).2.1, (seqL f n (f s).2.1).2.2))
    else ([], (f s).2.1, (f s).2.2)
def inSeq {α : Type} (f : ByteArray → α × ByteArray × Int) (s : ByteArray) (e most : Int) : List α × ByteArray × Int :=
  if (inSize s e most).2.2 = 0 then seqL f (inSize s e most).1.toNat (inSize s e most).2.1 else ([], (inSize s e most).2.1, (inSize s e most).2.2)
def inTexts (s : ByteArray) (e most : Int) : List ByteArray × ByteArray × Int := inSeq (fun s => inText s 0) s e most
theorem seqL_len {α : Type} (f : ByteArray → α × ByteArray × Int) (n : Nat) (s : ByteArray) : (seqL f n s).1.length ≤ n := by
  induction n generalizing s with
  | zero => simp [seqL]
  | succ n ih =>
    simp only [seqL]
    split
    · split
      · simp; exact ih _
      · simp
    · simp
theorem seqL_err {α : Type} (f : ByteArray → α × ByteArray × Int) (n : Nat) (s : ByteArray) (h : (seqL f n s).2.2 ≠ 0) : (seqL f n s).1 = [] := by
  cases n with
  | zero => exact absurd rfl h
  | succ n =>
    simp only [seqL] at h ⊢
    split
    · rename_i h2
      rw [if_pos h2] at h
      split
      · rename_i h3; rw [if_pos h3] at h; exact absurd rfl h
      · rfl
    · rfl
/-- What a loop that gathers has told at its end. -/
def gath {α : Type} (f : ByteArray → α × ByteArray × Int) (acc : List α) (r : Nat) (s : ByteArray) : List α × ByteArray × Int :=
  (if (seqL f r s).2.2 = 0 then acc ++ (seqL f r s).1 else [], (seqL f r s).2.1, (seqL f r s).2.2)
theorem gath_zero {α : Type} (f : ByteArray → α × ByteArray × Int) (acc : List α) (s : ByteArray) : gath f acc 0 s = (acc, s, 0) := by simp [gath, seqL]
theorem gath_ok {α : Type} (f : ByteArray → α × ByteArray × Int) (acc : List α) (r : Nat) (s : ByteArray) (h : (f s).2.2 = 0) : gath f acc (r + 1) s = gath f (acc ++ [(f s).1]) r (f s).2.1 := by
  unfold gath
  simp only [seqL, h, if_true]
  by_cases hh : (seqL f r (f s).2.1).2.2 = 0
  · simp [hh]
  · simp [hh]
theorem gath_bad {α : Type} (f : ByteArray → α × ByteArray × Int) (acc : List α) (r : Nat) (s : ByteArray) (h : (f s).2.2 ≠ 0) : gath f acc (r + 1) s = ([], (f s).2.1, (f s).2.2) := by
  unfold gath
  simp [seqL, h]
theorem gath_all {α : Type} (f : ByteArray → α × ByteArray × Int) (r : Nat) (s : ByteArray) : gath f [] r s = seqL f r s := by
  unfold gath
  by_cases h : (seqL f r s).2.2 = 0
  · rw [if_pos h]; rfl
  · rw [if_neg h]
    have := seqL_err f r s h
    rw [← this]
theorem inSeq_stop {α : Type} (f : ByteArray → α × ByteArray × Int) (s : ByteArray) (e most : Int) (h : e ≠ 0) : inSeq f s e most = ([], s, e) := by
  unfold inSeq
  rw [inSize_stop s e _ h, if_neg h]
theorem In_Texts_l0 (r : Nat) : ∀ (k : Nat) (acc : List ByteArray) (n i : Int) (s : ByteArray), 0 ≤ i → i + r = n → n ≤ 65536 → acc.length + r ≤ 65536 → r + 1 < k →
    octets_In_Texts.l0 k acc n i s 0 = some (gath (fun s => inText s 0) acc r s) := by
  induction r with
  | zero =>
    intro k acc n i s h0 h1 h2 h3 hk
    obtain ⟨k, rfl⟩ : ∃ j, k = j + 1 := ⟨k - 1, by omega⟩
    simp only [octets_In_Texts.l0]
    rw [if_neg (by omega), gath_zero]
  | succ r ih =>
    intro k acc n i s h0 h1 h2 h3 hk
    obtain ⟨k, rfl⟩ : ∃ j, k = j + 1 := ⟨k - 1, by omega⟩
    simp only [octets_In_Texts.l0]
    rw [if_pos (by omega), In_Text_eq _ _ _ (by omega), Option.bind_some, if_pos (by omega)]
    unfold octets_In_ready.f
    simp only [Option.bind_some]
    by_cases h : (inText s 0).2.2 = 0
    · rw [gath_ok _ _ _ _ h, h, w64 _ (by omega) (by omega)]
      simp only [beq_self_eq_true, if_true]
      exact ih k _ n (i + 1) _ (by omega) (by omega) h2 (by simp; omega) (by omega)
    · have hb : ((inText s 0).2.2 == 0) = false := by rw [beq_eq_false_iff_ne]; exact h
      rw [gath_bad _ _ _ _ h, hb]
      rfl
theorem In_Texts_eq (s : ByteArray) (e most : Int) (k : Nat) (hk : 65539 ≤ k) : octets_In_Texts.f k s e most = some (inTexts s e most) := by
  unfold octets_In_Texts.f octets_In_ready.f inTexts
  simp only [Option.bind_some]
  by_cases h : e = 0
  · subst h
    simp only [beq_self_eq_true, if_true]
    rw [In_size_eq s 0 most k (by omega), Option.bind_some]
    unfold inSeq
    by_cases h1 : (inSize s 0 most).2.2 = 0
    · have := inSize_ok s 0 most h1
      rw [if_pos h1, h1, In_Texts_l0 (inSize s 0 most).1.toNat k [] _ 0 _ (by omega) (by omega) (by omega) (by simp; omega) (by omega), gath_all]
    · have hz := inSize_err s 0 most h1
      rw [if_neg h1, hz]
      obtain ⟨k, rfl⟩ : ∃ j, k = j + 1 := ⟨k - 1, by omega⟩
      simp [octets_In_Texts.l0]
  · have hb : (e == 0) = false := by rw [beq_eq_false_iff_ne]; exact h
    rw [hb, inSeq_stop _ s e most h]
    rfl
def inEnd (s : ByteArray) (e : Int) : Int := if e = 0 then (if s.size = 0 then 0 else 4) else e
theorem inSeq_len {α : Type} (f : ByteArray → α × ByteArray × Int) (s : ByteArray) (e most : Int) : (inSeq f s e most).1.length ≤ 65536 := by
  unfold inSeq
  split
  · rename_i h
    have h1 := inSize_ok s e most h
    have := seqL_len f (inSize s e most).1.toNat (inSize s e most).2.1
    omega
  · exact Nat.zero_le _
end Go.Proofs.Ytnajmemcdipknaa.PK
namespace Go.Proofs.Ytnajmemcdipknaa.PK
open Go.RowKit Go.Proofs.YtnajmemcdipknaaW.PrintWords Go.Proofs.YtnajmemcdipknaaW.PrintLast Go.Proofs.YtnajmemcdipknaaW.PrintMore
set_option linter.unusedVariables false
set_option linter.unusedSimpArgs false
set_option maxRecDepth 100000
theorem C_str {w : World} {A : Option Addr} {n : Nat} {xs : List ByteArray} (h : Kd.C Kd.string w A n xs) (t : Nat) (ht : t < xs.length) : ∃ ad, A = some ad ∧ w.cell? (ad.add t) = some (.string xs[t]) := by
  obtain ⟨hl, _, hc⟩ := h
  obtain ⟨ad, rfl, hcell⟩ := hc (by omega)
  obtain ⟨cs, _, hcs, hcc⟩ := hcell t xs[t] (List.getElem?_eq_getElem ht)
  have hcs : cs = [.string xs[t]] := hcs
  subst hcs
  refine ⟨ad, rfl, ?_⟩
  have := hcc 0 (.string xs[t]) rfl
  have e : t * Kd.string.sz + 0 = t := by show t * 1 + 0 = t; omega
  rwa [e] at this
theorem err_quiet (g : Nat) (f0 : ByteArray) (f1 : Int) (W : World) (h : W.heap[g]? = some (.cells #[.string f0, .int .i64 f1] 153 (0, 0))) :
    Calls Try.prog 56 #[.pointer (some ⟨g, 0, none⟩)] W fun e w' => e = .returned (.int .i64 f1) ∧ w' = W := by
  have h1 : W.cell? ⟨g, 1, none⟩ = some (.int .i64 f1) := (blk_cell h 1).trans rfl
  clear h
  go_enter Try.func56, Try.ntmps56
  go_wp2
  go_ret
  exact ⟨rfl, rfl⟩
theorem end_quiet (g : Nat) (f0 : ByteArray) (f1 : Int) (W : World) (h : W.heap[g]? = some (.cells #[.string f0, .int .i64 f1] 153 (0, 0))) :
    Calls Try.prog 57 #[.pointer (some ⟨g, 0, none⟩)] W fun e w' => e = .returned (.int .i64 (inEnd f0 f1)) ∧ w' = W := by
  have h0 : W.cell? ⟨g, 0, none⟩ = some (.string f0) := (blk_cell h 0).trans rfl
  have HH := Aside0.mk h
  clear h
  by_cases he : f1 = 0
  · subst he
    by_cases hs : f0.size = 0
    · have hl : (f0.toList == ([] : List UInt8)) = true := by rw [beq_iff_eq]; exact (toList_nil_iff f0).mpr hs
      have hl2 : f0.toList.isEmpty = true := by rw [(toList_nil_iff f0).mpr hs]; rfl
      have e : inEnd f0 0 = 0 := by unfold inEnd; rw [if_pos rfl, if_pos hs]
      rw [e]
      clear e
      go_enter Try.func57, Try.ntmps57
      go_wp2_with (go_at_call 56; refine (err_quiet g f0 0 _ HH.out).mono ?_; rintro e w' ⟨rfl, rfl⟩)
      go_ret
      exact ⟨rfl, rfl⟩
    · have hl : (f0.toList == ([] : List UInt8)) = false := by rw [beq_eq_false_iff_ne]; exact fun h => hs ((toList_nil_iff f0).mp h)
      have hl2 : f0.toList.isEmpty = false := by
        cases hc : f0.toList with
        | nil => exact absurd ((toList_nil_iff f0).mp hc) hs
        | cons a b => rfl
      have e : inEnd f0 0 = 4 := by unfold inEnd; rw [if_pos rfl, if_neg hs]
      rw [e]
      clear e
      go_enter Try.func57, Try.ntmps57
      go_wp2_with (go_at_call 56; refine (err_quiet g f0 0 _ HH.out).mono ?_; rintro e w' ⟨rfl, rfl⟩)
      go_ret
      exact ⟨rfl, rfl⟩
  · have he2 : (f1 != 0) = true := by rw [bne_iff_ne]; exact he
    have e : inEnd f0 f1 = f1 := by unfold inEnd; rw [if_neg he]
    rw [e]
    clear e
    go_enter Try.func57, Try.ntmps57
    go_wp2_with (go_at_call 56; refine (err_quiet g f0 f1 _ HH.out).mono ?_; rintro e w' ⟨rfl, rfl⟩)
    go_ret
    exact ⟨rfl, rfl⟩
theorem C_int {w : World} {k : IntKind} {A : Option Addr} {n : Nat} {xs : List Int} (h : Kd.C (Kd.int k) w A n xs) (t : Nat) (ht : t < xs.length) : ∃ ad, A = some ad ∧ w.cell? (ad.add t) = some (.int k xs[t]) := by
  obtain ⟨hl, _, hc⟩ := h
  obtain ⟨ad, rfl, hcell⟩ := hc (by omega)
  obtain ⟨cs, _, hcs, hcc⟩ := hcell t xs[t] (List.getElem?_eq_getElem ht)
  have hcs : cs = [.int k xs[t]] := hcs
  subst hcs
  refine ⟨ad, rfl, ?_⟩
  have := hcc 0 (.int k xs[t]) rfl
  have e : t * (Kd.int k).sz + 0 = t := by show t * 1 + 0 = t; omega
  rwa [e] at this
/-- An Out stays, where another row is written. -/
theorem OutB.grown {w w1 : World} {b o : Nat} {T : TypeId} {cs : Array Value} {base : Nat} {l : List Int} {bad : Bool} (h : OutB w b o T cs base l bad) {row : Option Nat} (hg : w.grownBy w1 row) {e : TypeId} {v : Value} {n bs sz : Nat} {ys : List Value}
    (hr : row = v.ownBlock) (ho : w.ownsRow bs e sz v n ys) (he : e ≠ 5) (heT : e ≠ T) : OutB w1 b o T cs base l bad := by
  obtain ⟨v0, h1, h2, h3, h4⟩ := h
  subst hr
  refine ⟨v0, h1, (hg.block b h2.lt (fun h => own_blk_ne ho h2 heT h.symm)).trans h2, own_move h3 (fun k hk => hg.block k (own_lt h3 k hk) (fun h => ?_)), h4⟩
  obtain ⟨c1, hc1⟩ := own_typed h3 k hk
  obtain ⟨c2, hc2⟩ := own_typed ho k h.symm
  rw [hc1] at hc2
  injection hc2 with hc2
  injection hc2 with _ hc2
  exact he hc2.symm
/-- A row of another type stays, where an Out is written. -/
theorem OutK.own {w w1 : World} {b base : Nat} (hk : OutK w w1 b base) {T : TypeId} {cs : Array Value} (hb : Blk w b T cs) {e : TypeId} {v : Value} {n bs sz : Nat} {ys : List Value} (ho : w.ownsRow bs e sz v n ys) (he : e ≠ 5) (heT : e ≠ T) : w1.ownsRow bs e sz v n ys := by
  refine own_move ho (fun k hk' => ?_)
  obtain ⟨c2, hc2⟩ := own_typed ho k hk'
  exact hk.typ k c2 e (0, 0) (fun h => own_blk_ne ho hb heT (by rw [← h]; exact hk')) he hc2
theorem OutB.blk {w : World} {b o : Nat} {T : TypeId} {cs : Array Value} {base : Nat} {l : List Int} {bad : Bool} (h : OutB w b o T cs base l bad) : ∃ cs', Blk w b T cs' := by
  obtain ⟨v0, h1, h2, _⟩ := h
  exact ⟨_, h2⟩
theorem own_len {w : World} {b e sz n n' : Nat} {v : Value} {xs : List Value} (h : w.ownsRow b e sz v n xs) (hn : n = n') : w.ownsRow b e sz v n' xs := hn ▸ h
end Go.Proofs.Ytnajmemcdipknaa.PK
namespace Go.Proofs.Ytnajmemcdipknaa.PK
open Go.RowKit Go.Proofs.YtnajmemcdipknaaW.PrintWords Go.Proofs.YtnajmemcdipknaaW.PrintLast Go.Proofs.YtnajmemcdipknaaW.PrintMore
set_option linter.unusedVariables false
set_option linter.unusedSimpArgs false
set_option maxRecDepth 100000
/-- A call of a function that has a body enters it. -/
theorem enter_of {P : Program} {f : FuncId} {fn : Func} {c : Code} (hf : P.funcs[f]? = some fn) (hname : (fn.name == "runtime.NumGoroutine") = false) (hb : fn.body = some c) (args : Array Value) (w : World) : (callFunc f args).run P w = .ok (.enter f args) w := by
  have h1 : fn.name ≠ "runtime.NumGoroutine" := by simpa using hname
  simp [callFunc, hf, h1, hb]
theorem good1_calls (s : ByteArray) (w : World) : Calls Try.prog 47 #[.string s] w fun e w' => e = .returned (.bool (decide (16 < s.size))) ∧ w' = w := by
  go_enter Try.func47, Try.ntmps47
  have e : decide ((16 : Int) < (s.size : Int)) = decide (16 < s.size) := by rw [decide_eq_decide]; omega
  go_wp2
  go_ret
  rw [← e]
  exact ⟨rfl, rfl⟩
theorem index_calls (F : Nat) (he : ∀ args w, (callFunc F args).run Try.prog w = .ok (.enter F args) w) (p : ByteArray → Bool) (hf : ∀ s w, Calls Try.prog F #[.string s] w fun e w' => e = .returned (.bool (p s)) ∧ w' = w) (A : Option Addr) (c : Nat) (xs : List ByteArray) (w : World) (hr : Kd.C Kd.string w A xs.length xs) :
    Calls Try.prog 95 #[.slice A xs.length c, .func (.func F) #[] #[]] w fun e w' => (∃ r, e = .returned (.int .i64 r) ∧ decide (0 ≤ r) = xs.any p) ∧ w' = w := by
  have HR := Aside0.mk hr
  have HF := Aside0.mk hf
  clear hr hf
  go_enter Try.func95, Try.ntmps95
  go_wp2_with fail
  go_loopw [5, 8] (fun _ i wr => ∃ j : Nat, j ≤ xs.length ∧ i = .int .i64 j ∧ Aside0 (xs.any p = (xs.drop j).any p) ∧ wr = w) (fun _ i _ => xs.length - (intOf i).toNat)
  case atStart => exact ⟨0, Nat.zero_le _, rfl, ⟨rfl⟩, rfl⟩
  case round =>
    obtain ⟨j, hj, rfl, hany, rfl⟩ := hrel
    by_cases hjn : j < xs.length
    · have hmx := HR.out.2.1
      obtain ⟨ad, rfl, hcell⟩ := C_str HR.out j hjn
      have hd : decide ((j : Int) < (xs.length : Int)) = true := by simp; omega
      obtain ⟨x, hx⟩ : ∃ x, xs[j] = x := ⟨_, rfl⟩
      have hs : (xs.drop j).any p = (p x || (xs.drop (j + 1)).any p) := by rw [List.drop_eq_getElem_cons hjn, List.any_cons, hx]
      rw [hx] at hcell
      have HS := Aside0.mk hs
      clear hs hx
      cases hp : p x
      · have HP := Aside0.mk hp
        clear hp
        go_wp2_with fail
        refine (HF.out x _).mono ?_
        rintro e w2 ⟨rfl, rfl⟩
        rw [HP.out]
        go_wp2_with fail
        go_roundw
        case rel => exact ⟨j + 1, by omega, by go_num, ⟨by rw [hany.out, HS.out, HP.out]; rfl⟩, trivial⟩
        case measure => simp [intOf]; omega
      · have HP := Aside0.mk hp
        clear hp
        go_wp2_with fail
        refine (HF.out x _).mono ?_
        rintro e w2 ⟨rfl, rfl⟩
        rw [HP.out]
        go_wp2
        go_ret
        exact ⟨⟨_, rfl, by rw [hany.out, HS.out, HP.out]; simp⟩, rfl⟩
    · obtain rfl : xs.length = j := by omega
      have hd : decide ((xs.length : Int) < (xs.length : Int)) = false := by simp
      go_wp2
      go_ret
      refine ⟨⟨_, rfl, ?_⟩, rfl⟩
      rw [hany.out, List.drop_length]
      rfl
theorem good1_enter (args : Array Value) (w : World) : (callFunc 47 args).run Try.prog w = .ok (.enter 47 args) w := enter_of Try.func47 (by kernel_rfl) rfl _ _
theorem contains_calls (F : Nat) (he : ∀ args w, (callFunc F args).run Try.prog w = .ok (.enter F args) w) (p : ByteArray → Bool) (hf : ∀ s w, Calls Try.prog F #[.string s] w fun e w' => e = .returned (.bool (p s)) ∧ w' = w) (A : Option Addr) (c : Nat) (xs : List ByteArray) (w : World) (hr : Kd.C Kd.string w A xs.length xs) :
    Calls Try.prog 46 #[.slice A xs.length c, .func (.func F) #[] #[]] w fun e w' => e = .returned (.bool (xs.any p)) ∧ w' = w := by
  have HR := Aside0.mk hr
  have HF := Aside0.mk hf
  clear hr hf
  go_enter Try.func46, Try.ntmps46
  go_wp2_with fail
  refine (index_calls F he p HF.out A c xs w HR.out).mono ?_
  rintro e w2 ⟨⟨r, rfl, hr⟩, rfl⟩
  have HQ := Aside0.mk hr
  clear hr
  go_wp2
  go_ret
  exact ⟨by first | (rw [← HQ.out]; done) | (rw [← HQ.out]; rfl) | (simp [← HQ.out]), rfl⟩
end Go.Proofs.Ytnajmemcdipknaa.PK
namespace Go.Proofs.Ytnajmemcdipknaa.PC
open Go.RowKit Go.Proofs.YtnajmemcdipknaaW.PrintWords Go.Proofs.YtnajmemcdipknaaW.PrintLast Go.Proofs.YtnajmemcdipknaaW.PrintMore
attribute [local go_sem] max2_int min2_int max_two min_two max_three min_three max_four min_four   -- for this text's walks alone
set_option linter.unusedVariables false
set_option linter.unusedSimpArgs false



def errW : Option Int → Value
  | none => .nilIface
  | some c => .iface 0 (.int .i64 c)
theorem errW_none : errW none = .nilIface := rfl
theorem errW_some (c : Int) : errW (some c) = .iface 0 (.int .i64 c) := rfl

-- the values' own types

end Go.Proofs.Ytnajmemcdipknaa.PC
namespace Go.Proofs.Ytnajmemcdipknaa.PC
open Go.RowKit Go.Proofs.YtnajmemcdipknaaW.PrintWords Go.Proofs.YtnajmemcdipknaaW.PrintLast Go.Proofs.YtnajmemcdipknaaW.PrintMore
attribute [local go_sem] max2_int min2_int max_two min_two max_three min_three max_four min_four   -- for this text's walks alone
set_option linter.unusedVariables false
set_option linter.unusedSimpArgs false

/-! ### lex_letter: function 93 -/
def lex_letter.f (a0 : Int) : Option (Bool) := if a0 ≥ 97 then (if a0 ≤ 122 then (some true) else (if a0 ≥ 65 then (some (decide (a0 ≤ 90))) else (some false))) else (if a0 ≥ 65 then (some (decide (a0 ≤ 90))) else (some false))
set_option maxHeartbeats 8000000 in
set_option maxRecDepth 100000 in
theorem lex_letter.calls (a0 : Int) (r : Bool) (w : World) (h : lex_letter.f a0 = some r) :
    Calls Try.prog 93 #[.int .u8 a0] w fun e w' => e = .returned (.bool r) ∧ Drawn0 w w' := by
  have H : (if a0 ≥ 97 then (if a0 ≤ 122 then (some true) else (if a0 ≥ 65 then (some (decide (a0 ≤ 90))) else (some false))) else (if a0 ≥ 65 then (some (decide (a0 ≤ 90))) else (some false))) = some r := h
  clear h
  by_cases c2 : a0 ≥ 97
  · rw [if_pos c2] at H
    have c2b0 : decide (97 ≤ a0) = true := decide_eq_true c2
    clear c2
    by_cases c3 : a0 ≤ 122
    · rw [if_pos c3] at H
      have c3b0 : decide (a0 ≤ 122) = true := decide_eq_true c3
      clear c3
      obtain rfl := Option.some.inj H
      go_enter Try.func93, Try.ntmps93
      go_wp2
      go_ret
      exact ⟨by first | rfl | (simp; done) | (simp [*]; done), by repeat (first | exact Drawn0.refl _ | apply Drawn0.step)⟩
    · rw [if_neg c3] at H
      have c3b0 : decide (a0 ≤ 122) = false := decide_eq_false c3
      clear c3
      by_cases c4 : a0 ≥ 65
      · rw [if_pos c4] at H
        have c4b0 : decide (65 ≤ a0) = true := decide_eq_true c4
        clear c4
        obtain rfl := Option.some.inj H
        go_enter Try.func93, Try.ntmps93
        go_wp2
        go_ret
        exact ⟨by first | rfl | (simp; done) | (simp [*]; done), by repeat (first | exact Drawn0.refl _ | apply Drawn0.step)⟩
      · rw [if_neg c4] at H
        have c4b0 : decide (65 ≤ a0) = false := decide_eq_false c4
        clear c4
        obtain rfl := Option.some.inj H
        go_enter Try.func93, Try.ntmps93
        go_wp2
        go_ret
        exact ⟨by first | rfl | (simp; done) | (simp [*]; done), by repeat (first | exact Drawn0.refl _ | apply Drawn0.step)⟩
  · rw [if_neg c2] at H
    have c2b0 : decide (97 ≤ a0) = false := decide_eq_false c2
    clear c2
    by_cases c5 : a0 ≥ 65
    · rw [if_pos c5] at H
      have c5b0 : decide (65 ≤ a0) = true := decide_eq_true c5
      clear c5
      obtain rfl := Option.some.inj H
      go_enter Try.func93, Try.ntmps93
      go_wp2
      go_ret
      exact ⟨by first | rfl | (simp; done) | (simp [*]; done), by repeat (first | exact Drawn0.refl _ | apply Drawn0.step)⟩
    · rw [if_neg c5] at H
      have c5b0 : decide (65 ≤ a0) = false := decide_eq_false c5
      clear c5
      obtain rfl := Option.some.inj H
      go_enter Try.func93, Try.ntmps93
      go_wp2
      go_ret
      exact ⟨by first | rfl | (simp; done) | (simp [*]; done), by repeat (first | exact Drawn0.refl _ | apply Drawn0.step)⟩

/-! ### lex_inName: function 94 -/
def lex_inName.f (a0 : Int) : Option (Bool) := (lex_letter.f a0).bind fun t101 => (if t101 = true then (some true) else (if a0 ≥ 48 then (if a0 ≤ 57 then (some true) else (if a0 = 95 then (some true) else (some (a0 == 45)))) else (if a0 = 95 then (some true) else (some (a0 == 45)))))
set_option maxHeartbeats 8000000 in
set_option maxRecDepth 100000 in
theorem lex_inName.calls (a0 : Int) (r : Bool) (w : World) (h : lex_inName.f a0 = some r) :
    Calls Try.prog 94 #[.int .u8 a0] w fun e w' => e = .returned (.bool r) ∧ Drawn0 w w' := by
  have H : ((lex_letter.f a0).bind fun t101 => (if t101 = true then (some true) else (if a0 ≥ 48 then (if a0 ≤ 57 then (some true) else (if a0 = 95 then (some true) else (some (a0 == 45)))) else (if a0 = 95 then (some true) else (some (a0 == 45)))))) = some r := h
  clear h
  replace H := Option.bind_eq_some_iff.mp H
  obtain ⟨t101, A20, H⟩ := H
  replace H : (if t101 = true then (some true) else (if a0 ≥ 48 then (if a0 ≤ 57 then (some true) else (if a0 = 95 then (some true) else (some (a0 == 45)))) else (if a0 = 95 then (some true) else (some (a0 == 45))))) = some r := H
  have A2 := Aside0.mk A20
  clear A20
  by_cases c3 : t101 = true
  · subst c3
    have H1 : (some true) = some r := by rw [if_pos rfl] at H; exact H
    clear H
    have H := H1
    clear H1
    obtain rfl := Option.some.inj H
    go_enter Try.func94, Try.ntmps94
    go_wp2_with (first | ((with_reducible refine gate_callee (f := 93) rfl ?_); refine goesL_ (some 4) rfl rfl Try.func93 (by kernel_rfl) rfl #[.int .u8 a0] rfl (by (try simp only [List.map_toArray, List.map_cons, List.map_nil]); first | done | rfl | (simp only [List.length_drop, List.length_take]; rfl)) ?_; (with_reducible refine (lex_letter.calls a0 true _ A2.out).mono ?_); rintro e w' ⟨rfl, ⟨nd, rfl⟩⟩; refine ⟨_, rfl, ?_⟩))
    go_ret
    exact ⟨by first | rfl | (simp; done) | (simp [*]; done), by repeat (first | exact Drawn0.refl _ | apply Drawn0.step)⟩
  · replace c3 := Bool.eq_false_iff.mpr c3
    subst c3
    have H1 : (if a0 ≥ 48 then (if a0 ≤ 57 then (some true) else (if a0 = 95 then (some true) else (some (a0 == 45)))) else (if a0 = 95 then (some true) else (some (a0 == 45)))) = some r := by rw [if_neg (show ¬ (false = true) by decide)] at H; exact H
    clear H
    have H := H1
    clear H1
    by_cases c4 : a0 ≥ 48
    · rw [if_pos c4] at H
      have c4b0 : decide (48 ≤ a0) = true := decide_eq_true c4
      clear c4
      by_cases c5 : a0 ≤ 57
      · rw [if_pos c5] at H
        have c5b0 : decide (a0 ≤ 57) = true := decide_eq_true c5
        clear c5
        obtain rfl := Option.some.inj H
        go_enter Try.func94, Try.ntmps94
        go_wp2_with (first | ((with_reducible refine gate_callee (f := 93) rfl ?_); refine goesL_ (some 4) rfl rfl Try.func93 (by kernel_rfl) rfl #[.int .u8 a0] rfl (by (try simp only [List.map_toArray, List.map_cons, List.map_nil]); first | done | rfl | (simp only [List.length_drop, List.length_take]; rfl)) ?_; (with_reducible refine (lex_letter.calls a0 false _ A2.out).mono ?_); rintro e w' ⟨rfl, ⟨nd, rfl⟩⟩; refine ⟨_, rfl, ?_⟩))
        go_ret
        exact ⟨by first | rfl | (simp; done) | (simp [*]; done), by repeat (first | exact Drawn0.refl _ | apply Drawn0.step)⟩
      · rw [if_neg c5] at H
        have c5b0 : decide (a0 ≤ 57) = false := decide_eq_false c5
        clear c5
        by_cases c6 : a0 = 95
        · rw [if_pos c6] at H
          have c6b0 : (a0 == 95) = true := beq_iff_eq.mpr c6
          have c6b1 : (a0 != 95) = false := bne_eq_false_iff_eq.mpr c6
          clear c6
          obtain rfl := Option.some.inj H
          go_enter Try.func94, Try.ntmps94
          go_wp2_with (first | ((with_reducible refine gate_callee (f := 93) rfl ?_); refine goesL_ (some 4) rfl rfl Try.func93 (by kernel_rfl) rfl #[.int .u8 a0] rfl (by (try simp only [List.map_toArray, List.map_cons, List.map_nil]); first | done | rfl | (simp only [List.length_drop, List.length_take]; rfl)) ?_; (with_reducible refine (lex_letter.calls a0 false _ A2.out).mono ?_); rintro e w' ⟨rfl, ⟨nd, rfl⟩⟩; refine ⟨_, rfl, ?_⟩))
          go_ret
          exact ⟨by first | rfl | (simp; done) | (simp [*]; done), by repeat (first | exact Drawn0.refl _ | apply Drawn0.step)⟩
        · rw [if_neg c6] at H
          have c6b0 : (a0 == 95) = false := beq_eq_false_iff_ne.mpr c6
          have c6b1 : (a0 != 95) = true := bne_iff_ne.mpr c6
          obtain rfl := Option.some.inj H
          go_enter Try.func94, Try.ntmps94
          go_wp2_with (first | ((with_reducible refine gate_callee (f := 93) rfl ?_); refine goesL_ (some 4) rfl rfl Try.func93 (by kernel_rfl) rfl #[.int .u8 a0] rfl (by (try simp only [List.map_toArray, List.map_cons, List.map_nil]); first | done | rfl | (simp only [List.length_drop, List.length_take]; rfl)) ?_; (with_reducible refine (lex_letter.calls a0 false _ A2.out).mono ?_); rintro e w' ⟨rfl, ⟨nd, rfl⟩⟩; refine ⟨_, rfl, ?_⟩))
          go_ret
          exact ⟨by first | rfl | (simp; done) | (simp [*]; done), by repeat (first | exact Drawn0.refl _ | apply Drawn0.step)⟩
    · rw [if_neg c4] at H
      have c4b0 : decide (48 ≤ a0) = false := decide_eq_false c4
      clear c4
      by_cases c7 : a0 = 95
      · rw [if_pos c7] at H
        have c7b0 : (a0 == 95) = true := beq_iff_eq.mpr c7
        have c7b1 : (a0 != 95) = false := bne_eq_false_iff_eq.mpr c7
        clear c7
        obtain rfl := Option.some.inj H
        go_enter Try.func94, Try.ntmps94
        go_wp2_with (first | ((with_reducible refine gate_callee (f := 93) rfl ?_); refine goesL_ (some 4) rfl rfl Try.func93 (by kernel_rfl) rfl #[.int .u8 a0] rfl (by (try simp only [List.map_toArray, List.map_cons, List.map_nil]); first | done | rfl | (simp only [List.length_drop, List.length_take]; rfl)) ?_; (with_reducible refine (lex_letter.calls a0 false _ A2.out).mono ?_); rintro e w' ⟨rfl, ⟨nd, rfl⟩⟩; refine ⟨_, rfl, ?_⟩))
        go_ret
        exact ⟨by first | rfl | (simp; done) | (simp [*]; done), by repeat (first | exact Drawn0.refl _ | apply Drawn0.step)⟩
      · rw [if_neg c7] at H
        have c7b0 : (a0 == 95) = false := beq_eq_false_iff_ne.mpr c7
        have c7b1 : (a0 != 95) = true := bne_iff_ne.mpr c7
        obtain rfl := Option.some.inj H
        go_enter Try.func94, Try.ntmps94
        go_wp2_with (first | ((with_reducible refine gate_callee (f := 93) rfl ?_); refine goesL_ (some 4) rfl rfl Try.func93 (by kernel_rfl) rfl #[.int .u8 a0] rfl (by (try simp only [List.map_toArray, List.map_cons, List.map_nil]); first | done | rfl | (simp only [List.length_drop, List.length_take]; rfl)) ?_; (with_reducible refine (lex_letter.calls a0 false _ A2.out).mono ?_); rintro e w' ⟨rfl, ⟨nd, rfl⟩⟩; refine ⟨_, rfl, ?_⟩))
        go_ret
        exact ⟨by first | rfl | (simp; done) | (simp [*]; done), by repeat (first | exact Drawn0.refl _ | apply Drawn0.step)⟩

/-! ### lex_Good: function 44 -/
mutual
def lex_Good.j0 : Nat → ByteArray → Bool → Option (Bool)
  | 0, _, _ => none
  | k + 1, x0, x16 => if x16 = true then (some false) else (lex_Good.l0 k x0 (x0.size : Int) 0)
def lex_Good.l0 : Nat → ByteArray → Int → Int → Option (Bool)
  | 0, _, _, _ => none
  | k + 1, x0, x18, x19 => if x19 < x18 then (if 0 ≤ x19 then (if x19 < (x0.size : Int) then ((lex_inName.f (bt x0 x19)).bind fun t103 => (if t103 = true then (lex_Good.l0 k x0 x18 (wrap64 (x19 + 1))) else (some false))) else (none)) else (none)) else (some true)
end
def lex_Good.f (k : Nat) (a0 : ByteArray) : Option (Bool) := if a0.toList = ([] : List UInt8) then (lex_Good.j0 k a0 true) else (if (a0.size : Int) > 32 then (lex_Good.j0 k a0 true) else (if 0 < (a0.size : Int) then ((lex_letter.f (bt a0 0)).bind fun t102 => (lex_Good.j0 k a0 (!t102))) else (none)))
theorem lex_Good.mono_l : ∀ k, (∀ y0 y1, LeO (lex_Good.j0 k y0 y1) (lex_Good.j0 (k + 1) y0 y1)) ∧ (∀ y0 y1 y2, LeO (lex_Good.l0 k y0 y1 y2) (lex_Good.l0 (k + 1) y0 y1 y2))
  | 0 => ⟨fun _ _ r h => by simp [lex_Good.j0] at h, fun _ _ _ r h => by simp [lex_Good.l0] at h⟩
  | k + 1 => by
    obtain ⟨ih0, ih1⟩ := lex_Good.mono_l k
    refine ⟨?_, ?_⟩
    · intro y0 y1
      unfold lex_Good.j0
      repeat' first
      | (with_reducible exact ih0 _ _)
      | (with_reducible exact ih1 _ _ _)
      | (with_reducible exact LeO.refl _)
      | (with_reducible exact LeO.none _)
      | (with_reducible refine LeO.ite ?_ ?_)
      | (with_reducible refine LeO.bind ?_ (fun _ => ?_))
      | exact ih0 _ _
      | exact ih1 _ _ _
      | exact LeO.none _
      | refine LeO.ite ?_ ?_
      | refine LeO.bind ?_ (fun _ => ?_)
    · intro y0 y1 y2
      unfold lex_Good.l0
      repeat' first
      | (with_reducible exact ih0 _ _)
      | (with_reducible exact ih1 _ _ _)
      | (with_reducible exact LeO.refl _)
      | (with_reducible exact LeO.none _)
      | (with_reducible refine LeO.ite ?_ ?_)
      | (with_reducible refine LeO.bind ?_ (fun _ => ?_))
      | exact ih0 _ _
      | exact ih1 _ _ _
      | exact LeO.none _
      | refine LeO.ite ?_ ?_
      | refine LeO.bind ?_ (fun _ => ?_)
theorem lex_Good.mono : ∀ a0 k, LeO (lex_Good.f k a0) (lex_Good.f (k + 1) a0) := by
  intro a0 k
  obtain ⟨ih0, ih1⟩ := lex_Good.mono_l k
  unfold lex_Good.f
  repeat' first
      | (with_reducible exact ih0 _ _)
      | (with_reducible exact ih1 _ _ _)
      | (with_reducible exact LeO.refl _)
      | (with_reducible exact LeO.none _)
      | (with_reducible refine LeO.ite ?_ ?_)
      | (with_reducible refine LeO.bind ?_ (fun _ => ?_))
      | exact ih0 _ _
      | exact ih1 _ _ _
      | exact LeO.none _
      | refine LeO.ite ?_ ?_
      | refine LeO.bind ?_ (fun _ => ?_)
set_option maxHeartbeats 8000000 in
set_option maxRecDepth 100000 in
theorem lex_Good.calls (k : Nat) (a0 : ByteArray) (r : Bool) (w : World) (h : lex_Good.f k a0 = some r) :
    Calls Try.prog 44 #[.string a0] w fun e w' => e = .returned (.bool r) ∧ Drawn0 w w' := by
  have H : (if a0.toList = ([] : List UInt8) then (lex_Good.j0 k a0 true) else (if (a0.size : Int) > 32 then (lex_Good.j0 k a0 true) else (if 0 < (a0.size : Int) then ((lex_letter.f (bt a0 0)).bind fun t102 => (lex_Good.j0 k a0 (!t102))) else (none)))) = some r := h
  clear h
  have HC2 := Aside0.mk H
  clear H
  go_enter Try.func44, Try.ntmps44
  go_upto_region 1 with (fail)
  go_cut [16] (fun v16 wc => ∃ (kq : Nat) (x16_1 : Bool), v16 = .bool x16_1 ∧ Aside0 (lex_Good.j0 kq a0 x16_1 = some r) ∧ Aside0 (kq ≤ k) ∧ Drawn0 w wc)
  case first =>
    have H := HC2.out
    clear HC2
    by_cases c3 : a0.toList = ([] : List UInt8)
    · rw [if_pos c3] at H
      have c3b0 : (a0.toList == ([] : List UInt8)) = true := beq_iff_eq.mpr c3
      have c3b1 : (a0.toList != ([] : List UInt8)) = false := bne_eq_false_iff_eq.mpr c3
      clear c3
      (first | rw [c3b0] | (simp only [i64_w, i32_w]; rw [c3b0]) | skip)
      have H' := Aside0.mk H
      clear H
      go_wp2
      go_meet
      case rel => exact ⟨_, (true), (by first | rfl | (simp; done) | (simp [*]; done)), H', ⟨by first | omega | exact Nat.le_refl _⟩, by repeat (first | exact Drawn0.refl _ | apply Drawn0.step)⟩
    · rw [if_neg c3] at H
      have c3b0 : (a0.toList == ([] : List UInt8)) = false := beq_eq_false_iff_ne.mpr c3
      have c3b1 : (a0.toList != ([] : List UInt8)) = true := bne_iff_ne.mpr c3
      (first | rw [c3b0] | (simp only [i64_w, i32_w]; rw [c3b0]) | skip)
      by_cases c4 : (a0.size : Int) > 32
      · rw [if_pos c4] at H
        have c4b0 : decide (32 < (a0.size : Int)) = true := decide_eq_true c4
        have c4b1 : decide (32 < a0.size) = true := decide_eq_true (by omega)
        clear c4
        have H' := Aside0.mk H
        clear H
        go_wp2
        go_meet
        case rel => exact ⟨_, (true), (by first | rfl | (simp; done) | (simp [*]; done)), H', ⟨by first | omega | exact Nat.le_refl _⟩, by repeat (first | exact Drawn0.refl _ | apply Drawn0.step)⟩
      · rw [if_neg c4] at H
        have c4b0 : decide (32 < (a0.size : Int)) = false := decide_eq_false c4
        have c4b1 : decide (32 < a0.size) = false := decide_eq_false (by omega)
        clear c4
        by_cases c5 : 0 < (a0.size : Int)
        · rw [if_pos c5] at H
          have c5b0 : decide (0 < (a0.size : Int)) = true := decide_eq_true c5
          have c5b1 : decide (0 < a0.size) = true := decide_eq_true (by omega)
          clear c5
          replace H := Option.bind_eq_some_iff.mp H
          obtain ⟨t102, A70, H⟩ := H
          replace H : (lex_Good.j0 k a0 (!t102)) = some r := H
          have A7 := Aside0.mk A70
          clear A70
          have H' := Aside0.mk H
          clear H
          have p6 : 0 ≤ (0 : Int) := (by omega)
          have q6 : 0 < a0.size := (by have : (0 : Int) < (a0.size : Int) := of_decide_eq_true (by first | (with_reducible assumption) | assumption); omega)
          have hx6 : ∀ h : 0 < a0.size, ((a0[0]'h).toNat : Int) = bt a0 0 := bt_at a0 0
          clear p6
          have qi6 : (0 < (a0.size : Int)) = True := eq_true (of_decide_eq_true (by first | (with_reducible assumption) | assumption))
          replace q6 := eq_true q6
          go_wp2_with (first | (go_at_call 93; (with_reducible refine (lex_letter.calls (bt a0 0) t102 _ A7.out).mono ?_); rintro e w' ⟨rfl, ⟨nd, rfl⟩⟩))
          go_meet
          case rel => exact ⟨_, (!t102), (by first | rfl | (simp; done) | (simp [*]; done)), H', ⟨by first | omega | exact Nat.le_refl _⟩, by repeat (first | exact Drawn0.refl _ | apply Drawn0.step)⟩
        · rw [if_neg c5] at H
          exact absurd H (by simp)
  case rest =>
    clear HC2
    try clear p2
    try clear c3
    try clear c3b0
    try clear c3b1
    try clear c4
    try clear c4b0
    try clear c4b1
    try clear c5
    try clear c5b0
    try clear c5b1
    try clear p6
    try clear q6
    try clear hx6
    try clear qi6
    try clear p6
    try clear q6
    obtain ⟨kq, x16_1, rfl, HA, HJ1, ⟨mc1, rfl⟩⟩ := hcut
    cases kq with
    | zero => exact absurd HA.out (by simp [lex_Good.j0])
    | succ kj1 =>
      have H := HA.out
      clear HA
      simp only [lex_Good.j0] at H
      by_cases c8 : x16_1 = true
      · subst c8
        have H1 : (some false) = some r := by rw [if_pos rfl] at H; exact H
        clear H
        have H := H1
        clear H1
        obtain rfl := Option.some.inj H
        go_wp2
        go_ret
        exact ⟨by first | rfl | (simp; done) | (simp [*]; done), by repeat (first | exact Drawn0.refl _ | apply Drawn0.step)⟩
      · replace c8 := Bool.eq_false_iff.mpr c8
        subst c8
        have H1 : (lex_Good.l0 kj1 a0 (a0.size : Int) 0) = some r := by rw [if_neg (show ¬ (false = true) by decide)] at H; exact H
        clear H
        have H := H1
        clear H1
        have H' := Aside0.mk H
        clear H
        go_wp2
        go_loopg [19] kj1 (fun kq v19 w' => ∃ (x19_2 : Int), v19 = .int .i64 x19_2 ∧ Aside0 (lex_Good.l0 kq a0 (a0.size : Int) x19_2 = some r) ∧ Aside0 (kq ≤ kj1) ∧ Drawn0 w w')
        case atStart => exact ⟨(0), (by first | rfl | (simp; done) | (simp [*]; done)), H', ⟨Nat.le_refl _⟩, by repeat (first | exact Drawn0.refl _ | apply Drawn0.step)⟩
        case round =>
          clear H'
          try clear c1
          try clear p2
          try clear c3
          try clear c3b0
          try clear c3b1
          try clear c4
          try clear c4b0
          try clear c4b1
          try clear c5
          try clear c5b0
          try clear c5b1
          try clear p6
          try clear q6
          try clear hx6
          try clear qi6
          try clear c8
          try clear p2
          try clear p6
          try clear q6
          obtain ⟨x19_2, rfl, HA, HK2, ⟨m2, rfl⟩⟩ := hrel
          cases gk with
          | zero => exact absurd HA.out (by simp [lex_Good.l0])
          | succ k2 =>
            have H := HA.out
            clear HA
            simp only [lex_Good.l0] at H
            by_cases c9 : x19_2 < (a0.size : Int)
            · rw [if_pos c9] at H
              have c9b0 : decide (x19_2 < (a0.size : Int)) = true := decide_eq_true c9
              clear c9
              by_cases c10 : 0 ≤ x19_2
              · rw [if_pos c10] at H
                have c10b0 : decide (0 ≤ x19_2) = true := decide_eq_true c10
                clear c10
                by_cases c11 : x19_2 < (a0.size : Int)
                · rw [if_pos c11] at H
                  have c11b0 : decide (x19_2 < (a0.size : Int)) = true := decide_eq_true c11
                  clear c11
                  replace H := Option.bind_eq_some_iff.mp H
                  obtain ⟨t103, A130, H⟩ := H
                  replace H : (if t103 = true then (lex_Good.l0 k2 a0 (a0.size : Int) (wrap64 (x19_2 + 1))) else (some false)) = some r := H
                  have A13 := Aside0.mk A130
                  clear A130
                  by_cases c14 : t103 = true
                  · subst c14
                    have H1 : (lex_Good.l0 k2 a0 (a0.size : Int) (wrap64 (x19_2 + 1))) = some r := by rw [if_pos rfl] at H; exact H
                    clear H
                    have H := H1
                    clear H1
                    have H' := Aside0.mk H
                    clear H
                    have p12 : 0 ≤ (x19_2 : Int) := of_decide_eq_true (by first | (with_reducible assumption) | assumption)
                    have q12 : x19_2 < (a0.size : Int) := of_decide_eq_true (by first | (with_reducible assumption) | assumption)
                    have hx12 := bt_at a0 x19_2
                    replace p12 := eq_true p12
                    replace q12 := eq_true q12
                    go_wp2_with (first | ((with_reducible refine gate_callee (f := 94) rfl ?_); refine goesL_ (some 25) rfl rfl Try.func94 (by kernel_rfl) rfl #[.int .u8 (bt a0 x19_2)] rfl (by (try simp only [List.map_toArray, List.map_cons, List.map_nil]); first | done | rfl | (simp only [List.length_drop, List.length_take]; rfl)) ?_; (with_reducible refine (lex_inName.calls (bt a0 x19_2) true _ A13.out).mono ?_); rintro e w' ⟨rfl, ⟨nd, rfl⟩⟩; refine ⟨_, rfl, ?_⟩))
                    go_roundg k2
                    case measure => have := HJ1.out; have := HK2.out; omega
                    case rel => exact ⟨(wrap64 (x19_2 + 1)), (by first | rfl | (simp; done) | (simp [*]; done)), H', ⟨by have := HJ1.out; have := HK2.out; omega⟩, by repeat (first | exact Drawn0.refl _ | apply Drawn0.step)⟩
                  · replace c14 := Bool.eq_false_iff.mpr c14
                    subst c14
                    have H1 : (some false) = some r := by rw [if_neg (show ¬ (false = true) by decide)] at H; exact H
                    clear H
                    have H := H1
                    clear H1
                    obtain rfl := Option.some.inj H
                    have p12 : 0 ≤ (x19_2 : Int) := of_decide_eq_true (by first | (with_reducible assumption) | assumption)
                    have q12 : x19_2 < (a0.size : Int) := of_decide_eq_true (by first | (with_reducible assumption) | assumption)
                    have hx12 := bt_at a0 x19_2
                    replace p12 := eq_true p12
                    replace q12 := eq_true q12
                    go_wp2_with (first | ((with_reducible refine gate_callee (f := 94) rfl ?_); refine goesL_ (some 25) rfl rfl Try.func94 (by kernel_rfl) rfl #[.int .u8 (bt a0 x19_2)] rfl (by (try simp only [List.map_toArray, List.map_cons, List.map_nil]); first | done | rfl | (simp only [List.length_drop, List.length_take]; rfl)) ?_; (with_reducible refine (lex_inName.calls (bt a0 x19_2) false _ A13.out).mono ?_); rintro e w' ⟨rfl, ⟨nd, rfl⟩⟩; refine ⟨_, rfl, ?_⟩))
                    go_ret
                    exact ⟨by first | rfl | (simp; done) | (simp [*]; done), by repeat (first | exact Drawn0.refl _ | apply Drawn0.step)⟩
                · rw [if_neg c11] at H
                  exact absurd H (by simp)
              · rw [if_neg c10] at H
                exact absurd H (by simp)
            · rw [if_neg c9] at H
              have c9b0 : decide (x19_2 < (a0.size : Int)) = false := decide_eq_false c9
              clear c9
              obtain rfl := Option.some.inj H
              go_wp2
              go_ret
              exact ⟨by first | rfl | (simp; done) | (simp [*]; done), by repeat (first | exact Drawn0.refl _ | apply Drawn0.step)⟩

/-! ### command_name: function 45 -/
def command_name.f (k : Nat) (a0 : ByteArray) : Option (Bool) := if a0.toList = ([] : List UInt8) then (some true) else ((lex_Good.f k a0).bind fun t104 => (some t104))
theorem command_name.mono : ∀ a0 k, LeO (command_name.f k a0) (command_name.f (k + 1) a0) := by
  intro a0 k
  unfold command_name.f
  repeat' first
      | (with_reducible exact lex_Good.mono _ _)
      | (with_reducible exact LeO.refl _)
      | (with_reducible exact LeO.none _)
      | (with_reducible refine LeO.ite ?_ ?_)
      | (with_reducible refine LeO.bind ?_ (fun _ => ?_))
      | exact lex_Good.mono _ _
      | exact LeO.none _
      | refine LeO.ite ?_ ?_
      | refine LeO.bind ?_ (fun _ => ?_)
set_option maxHeartbeats 8000000 in
set_option maxRecDepth 100000 in
theorem command_name.calls (k : Nat) (a0 : ByteArray) (r : Bool) (w : World) (h : command_name.f k a0 = some r) :
    Calls Try.prog 45 #[.string a0] w fun e w' => e = .returned (.bool r) ∧ Drawn0 w w' := by
  have H : (if a0.toList = ([] : List UInt8) then (some true) else ((lex_Good.f k a0).bind fun t104 => (some t104))) = some r := h
  clear h
  by_cases c2 : a0.toList = ([] : List UInt8)
  · rw [if_pos c2] at H
    have c2b0 : (a0.toList == ([] : List UInt8)) = true := beq_iff_eq.mpr c2
    have c2b1 : (a0.toList != ([] : List UInt8)) = false := bne_eq_false_iff_eq.mpr c2
    clear c2
    obtain rfl := Option.some.inj H
    go_enter Try.func45, Try.ntmps45
    go_wp2
    go_ret
    exact ⟨by first | rfl | (simp; done) | (simp [*]; done), by repeat (first | exact Drawn0.refl _ | apply Drawn0.step)⟩
  · rw [if_neg c2] at H
    have c2b0 : (a0.toList == ([] : List UInt8)) = false := beq_eq_false_iff_ne.mpr c2
    have c2b1 : (a0.toList != ([] : List UInt8)) = true := bne_iff_ne.mpr c2
    replace H := Option.bind_eq_some_iff.mp H
    obtain ⟨t104, A30, H⟩ := H
    replace H : (some t104) = some r := H
    have A3 := Aside0.mk A30
    clear A30
    obtain rfl := Option.some.inj H
    go_enter Try.func45, Try.ntmps45
    go_wp2_with (first | (go_at_call 44; (with_reducible refine (lex_Good.calls k a0 t104 _ A3.out).mono ?_); rintro e w' ⟨rfl, ⟨nd, rfl⟩⟩))
    go_ret
    exact ⟨by first | rfl | (simp; done) | (simp [*]; done), by repeat (first | exact Drawn0.refl _ | apply Drawn0.step)⟩

/-! ### primerref04_letter: function 96 -/
/-! ### primerref04_rest: function 97 -/
/-! ### primerref04_Good: function 48 -/
/-! ### primerref21_text: function 50 -/
def primerref21_text.f (k : Nat) (a0 : ByteArray) : Option (ByteArray) := (PK.primerref01_Put.f k (a0.size : Int)).bind fun t109 => (if t109.size + a0.size ≤ 9223372036854775807 then (some (t109 ++ a0)) else (none))
theorem primerref21_text.mono : ∀ a0 k, LeO (primerref21_text.f k a0) (primerref21_text.f (k + 1) a0) := by
  intro a0 k
  unfold primerref21_text.f
  repeat' first
      | (with_reducible exact PK.primerref01_Put.mono _ _)
      | (with_reducible exact LeO.refl _)
      | (with_reducible exact LeO.none _)
      | (with_reducible refine LeO.ite ?_ ?_)
      | (with_reducible refine LeO.bind ?_ (fun _ => ?_))
      | exact PK.primerref01_Put.mono _ _
      | exact LeO.none _
      | refine LeO.ite ?_ ?_
      | refine LeO.bind ?_ (fun _ => ?_)
set_option maxHeartbeats 8000000 in
set_option maxRecDepth 100000 in
theorem primerref21_text.calls (k : Nat) (a0 : ByteArray) (r : ByteArray) (w : World) (h : primerref21_text.f k a0 = some r) :
    Calls Try.prog 50 #[.string a0] w fun e w' => e = .returned (.string r) ∧ Below w.heap.size w w' := by
  have HB := Aside0.mk (Below.refl w.heap.size w)
  have H : ((PK.primerref01_Put.f k (a0.size : Int)).bind fun t109 => (if t109.size + a0.size ≤ 9223372036854775807 then (some (t109 ++ a0)) else (none))) = some r := h
  clear h
  replace H := Option.bind_eq_some_iff.mp H
  obtain ⟨t109, A20, H⟩ := H
  replace H : (if t109.size + a0.size ≤ 9223372036854775807 then (some (t109 ++ a0)) else (none)) = some r := H
  have A2 := Aside0.mk A20
  clear A20
  by_cases c3 : t109.size + a0.size ≤ 9223372036854775807
  · rw [if_pos c3] at H
    have c3b0 := eq_true c3
    have c3b1 : decide (t109.size + a0.size ≤ 9223372036854775807) = true := decide_eq_true c3
    try have c3b2 : (9223372036854775807 < t109.size + a0.size) = False := eq_false (Nat.not_lt.2 c3)
    obtain rfl := Option.some.inj H
    go_enter Try.func50, Try.ntmps50
    go_wp2_with (first | ((with_reducible refine gate_callee (f := 49) rfl ?_); refine goesL_ (some 5) rfl rfl Try.func49 (by kernel_rfl) rfl #[.int .i64 (a0.size : Int)] rfl (by (try simp only [List.map_toArray, List.map_cons, List.map_nil]); first | done | rfl | (simp only [List.length_drop, List.length_take]; rfl)) ?_; (with_reducible refine (PK.primerref01_Put.calls k (a0.size : Int) t109 _ A2.out).mono ?_); rintro e w4 ⟨rfl, hb⟩; refine ⟨_, rfl, ?_⟩; have n0_ := Aside0.mk (below_step (by repeat (first | (with_reducible first | exact HB.out | apply below_alloc | apply pw_below_drewN | apply below_drew1) | exact HB.out)) hb); clear HB; have HB := n0_; clear n0_; (try clear hb); (try clear hb2); (try clear hk); (try clear hi)))
    go_ret
    exact ⟨by first | rfl | (simp [errW_none, errW_some] <;> rfl) | (simp [*, errW_none, errW_some] <;> rfl), by repeat (first | (with_reducible first | exact HB.out | apply below_alloc | apply pw_below_drewN | apply below_drew1) | exact HB.out)⟩
  · rw [if_neg c3] at H
    exact absurd H (by simp)

end Go.Proofs.Ytnajmemcdipknaa.PC
namespace Go.Proofs.Ytnajmemcdipknaa.PC
open Go.RowKit Go.Proofs.YtnajmemcdipknaaW.PrintWords Go.Proofs.YtnajmemcdipknaaW.PrintLast Go.Proofs.YtnajmemcdipknaaW.PrintMore
attribute [local go_sem] max2_int min2_int max_two min_two max_three min_three max_four min_four   -- for this text's walks alone
set_option linter.unusedVariables false
set_option linter.unusedSimpArgs false

/-! ### primerref21_texts: function 51 -/
def primerref21_texts.l0 : Nat → List ByteArray → ByteArray → Int → Option (ByteArray)
  | 0, _, _, _ => none
  | k + 1, x0, x3, x4 => if x4 < (x0.length : Int) then (if 0 ≤ x4 then ((primerref21_text.f k (rdOf ByteArray.empty x0 x4)).bind fun t112 => (if x3.size + t112.size ≤ 9223372036854775807 then (primerref21_texts.l0 k x0 (x3 ++ t112) (wrap64 (x4 + 1))) else (none))) else (none)) else (some x3)
def primerref21_texts.f (k : Nat) (l0 : List ByteArray) : Option (ByteArray) := (PK.primerref01_Put.f k (l0.length : Int)).bind fun t110 => (primerref21_texts.l0 k l0 t110 0)
theorem primerref21_texts.mono_l : ∀ k, (∀ y0 y1 y2, LeO (primerref21_texts.l0 k y0 y1 y2) (primerref21_texts.l0 (k + 1) y0 y1 y2))
  | 0 => fun _ _ _ r h => by simp [primerref21_texts.l0] at h
  | k + 1 => by
    have ih0 := primerref21_texts.mono_l k
    · intro y0 y1 y2
      unfold primerref21_texts.l0
      repeat' first
      | (with_reducible exact ih0 _ _ _)
      | (with_reducible exact PK.primerref01_Put.mono _ _)
      | (with_reducible exact primerref21_text.mono _ _)
      | (with_reducible exact LeO.refl _)
      | (with_reducible exact LeO.none _)
      | (with_reducible refine LeO.ite ?_ ?_)
      | (with_reducible refine LeO.bind ?_ (fun _ => ?_))
      | exact ih0 _ _ _
      | exact PK.primerref01_Put.mono _ _
      | exact primerref21_text.mono _ _
      | exact LeO.none _
      | refine LeO.ite ?_ ?_
      | refine LeO.bind ?_ (fun _ => ?_)
theorem primerref21_texts.mono : ∀ a0 k, LeO (primerref21_texts.f k a0) (primerref21_texts.f (k + 1) a0) := by
  intro a0 k
  have ih0 := primerref21_texts.mono_l k
  unfold primerref21_texts.f
  repeat' first
      | (with_reducible exact ih0 _ _ _)
      | (with_reducible exact PK.primerref01_Put.mono _ _)
      | (with_reducible exact primerref21_text.mono _ _)
      | (with_reducible exact LeO.refl _)
      | (with_reducible exact LeO.none _)
      | (with_reducible refine LeO.ite ?_ ?_)
      | (with_reducible refine LeO.bind ?_ (fun _ => ?_))
      | exact ih0 _ _ _
      | exact PK.primerref01_Put.mono _ _
      | exact primerref21_text.mono _ _
      | exact LeO.none _
      | refine LeO.ite ?_ ?_
      | refine LeO.bind ?_ (fun _ => ?_)
set_option maxHeartbeats 8000000 in
set_option maxRecDepth 100000 in
theorem primerref21_texts.calls (k : Nat) (A0 : Option Addr) (c0 : Nat) (l0 : List ByteArray) (r : ByteArray) (w : World) (hr0 : Kd.C Kd.string w A0 l0.length l0) (hc0 : l0.length ≤ c0) (h : primerref21_texts.f k l0 = some r) :
    Calls Try.prog 51 #[.slice A0 l0.length c0] w fun e w' => e = .returned (.string r) ∧ Below w.heap.size w w' := by
  have HR0 := Aside0.mk hr0
  have HC0 := Aside0.mk hc0
  clear hr0 hc0
  have HB := Aside0.mk (Below.refl w.heap.size w)
  have H : ((PK.primerref01_Put.f k (l0.length : Int)).bind fun t110 => (primerref21_texts.l0 k l0 t110 0)) = some r := h
  clear h
  replace H := Option.bind_eq_some_iff.mp H
  obtain ⟨t110, A20, H⟩ := H
  replace H : (primerref21_texts.l0 k l0 t110 0) = some r := H
  have A2 := Aside0.mk A20
  clear A20
  have H' := Aside0.mk H
  clear H
  go_enter Try.func51, Try.ntmps51
  go_wp2_with (first | ((with_reducible refine gate_callee (f := 49) rfl ?_); refine goesL_ (some 7) rfl rfl Try.func49 (by kernel_rfl) rfl #[.int .i64 (l0.length : Int)] rfl (by (try simp only [List.map_toArray, List.map_cons, List.map_nil]); first | done | rfl | (simp only [List.length_drop, List.length_take]; rfl)) ?_; (with_reducible refine (PK.primerref01_Put.calls k (l0.length : Int) t110 _ A2.out).mono ?_); rintro e w3 ⟨rfl, hb⟩; refine ⟨_, rfl, ?_⟩; have n0_ := Aside0.mk (below_step (by repeat (first | (with_reducible first | exact HB.out | apply below_alloc | apply pw_below_drewN | apply below_drew1) | exact HB.out)) hb); clear HB; have HB := n0_; clear n0_; (try clear hb); (try clear hb2); (try clear hk); (try clear hi)))
  go_loopg [3, 4] k (fun kq v3 v4 w' => ∃ (x3_1 : ByteArray) (x4_1 : Int), v3 = .string x3_1 ∧ v4 = .int .i64 x4_1 ∧ Aside0 (primerref21_texts.l0 kq l0 x3_1 x4_1 = some r) ∧ Aside0 (kq ≤ k) ∧ Aside0 (Below w.heap.size w w'))
  case atStart => exact ⟨(t110), (0), (by first | rfl | (simp; done) | (simp [*]; done)), (by first | rfl | (simp; done) | (simp [*]; done)), H', ⟨Nat.le_refl _⟩, ⟨by repeat (first | (with_reducible first | exact HB.out | apply below_alloc | apply pw_below_drewN | apply below_drew1) | exact HB.out)⟩⟩
  case round =>
    clear H'
    try clear p2
    obtain ⟨x3_1, x4_1, rfl, rfl, HA, HK1, HB⟩ := hrel
    cases gk with
    | zero => exact absurd HA.out (by simp [primerref21_texts.l0])
    | succ k1 =>
      have H := HA.out
      clear HA
      simp only [primerref21_texts.l0] at H
      by_cases c4 : x4_1 < (l0.length : Int)
      · rw [if_pos c4] at H
        have c4b0 : decide (x4_1 < (l0.length : Int)) = true := decide_eq_true c4
        clear c4
        by_cases c5 : 0 ≤ x4_1
        · rw [if_pos c5] at H
          have c5b0 : decide (0 ≤ x4_1) = true := decide_eq_true c5
          clear c5
          replace H := Option.bind_eq_some_iff.mp H
          obtain ⟨t112, A60, H⟩ := H
          replace H : (if x3_1.size + t112.size ≤ 9223372036854775807 then (primerref21_texts.l0 k1 l0 (x3_1 ++ t112) (wrap64 (x4_1 + 1))) else (none)) = some r := H
          have A6 := Aside0.mk A60
          clear A60
          by_cases c7 : x3_1.size + t112.size ≤ 9223372036854775807
          · rw [if_pos c7] at H
            have c7b0 := eq_true c7
            have c7b1 : decide (x3_1.size + t112.size ≤ 9223372036854775807) = true := decide_eq_true c7
            try have c7b2 : (9223372036854775807 < x3_1.size + t112.size) = False := eq_false (Nat.not_lt.2 c7)
            have H' := Aside0.mk H
            clear H
            have p111 : 0 ≤ (x4_1 : Int) := of_decide_eq_true (by first | (with_reducible assumption) | assumption)
            have q111 : x4_1 < (l0.length : Int) := of_decide_eq_true (by first | (with_reducible assumption) | assumption)
            obtain ⟨ad111, e111, hx111_0⟩ := Kd.at_string HR0.out x4_1 p111 q111
            cases e111
            replace hx111_0 := (HB.out.cell (World.block_lt_of_cell? w _ hx111_0)).trans hx111_0
            replace p111 := eq_true p111
            replace q111 := eq_true q111
            go_wp2_with (first | ((with_reducible refine gate_callee (f := 50) rfl ?_); refine goesL_ (some 19) rfl rfl Try.func50 (by kernel_rfl) rfl #[.string (rdOf ByteArray.empty l0 x4_1)] rfl (by (try simp only [List.map_toArray, List.map_cons, List.map_nil]); first | done | rfl | (simp only [List.length_drop, List.length_take]; rfl)) ?_; (with_reducible refine (primerref21_text.calls k1 (rdOf ByteArray.empty l0 x4_1) t112 _ A6.out).mono ?_); rintro e w8 ⟨rfl, hb⟩; refine ⟨_, rfl, ?_⟩; have n0_ := Aside0.mk (below_step (by repeat (first | (with_reducible first | exact HB.out | apply below_alloc | apply pw_below_drewN | apply below_drew1) | exact HB.out)) hb); clear HB; have HB := n0_; clear n0_; (try clear hb); (try clear hb2); (try clear hk); (try clear hi)))
            go_roundg k1
            case measure => have := HK1.out; omega
            case rel => exact ⟨(x3_1 ++ t112), (wrap64 (x4_1 + 1)), (by first | rfl | (simp; done) | (simp [*]; done)), (by first | rfl | (simp; done) | (simp [*]; done)), H', ⟨by have := HK1.out; omega⟩, ⟨by repeat (first | (with_reducible first | exact HB.out | apply below_alloc | apply pw_below_drewN | apply below_drew1) | exact HB.out)⟩⟩
          · rw [if_neg c7] at H
            exact absurd H (by simp)
        · rw [if_neg c5] at H
          exact absurd H (by simp)
      · rw [if_neg c4] at H
        have c4b0 : decide (x4_1 < (l0.length : Int)) = false := decide_eq_false c4
        clear c4
        obtain rfl := Option.some.inj H
        go_wp2
        go_ret
        exact ⟨by first | rfl | (simp [errW_none, errW_some] <;> rfl) | (simp [*, errW_none, errW_some] <;> rfl), by repeat (first | (with_reducible first | exact HB.out | apply below_alloc | apply pw_below_drewN | apply below_drew1) | exact HB.out)⟩

/-! ### primerlaw21_texts: function 58 -/
def primerlaw21_texts.l0 : Nat → List ByteArray → List ByteArray → Int → Option (Bool)
  | 0, _, _, _ => none
  | k + 1, x0, x1, x5 => if x5 < (x0.length : Int) then (if 0 ≤ x5 then (if x5 < (x1.length : Int) then (if (rdOf ByteArray.empty x0 x5).toList = (rdOf ByteArray.empty x1 x5).toList then (primerlaw21_texts.l0 k x0 x1 (wrap64 (x5 + 1))) else (some false)) else (none)) else (none)) else (some true)
def primerlaw21_texts.f (k : Nat) (l0 : List ByteArray) (l1 : List ByteArray) : Option (Bool) := if (l0.length : Int) = (l1.length : Int) then (primerlaw21_texts.l0 k l0 l1 0) else (some false)
theorem primerlaw21_texts.mono_l : ∀ k, (∀ y0 y1 y2, LeO (primerlaw21_texts.l0 k y0 y1 y2) (primerlaw21_texts.l0 (k + 1) y0 y1 y2))
  | 0 => fun _ _ _ r h => by simp [primerlaw21_texts.l0] at h
  | k + 1 => by
    have ih0 := primerlaw21_texts.mono_l k
    · intro y0 y1 y2
      unfold primerlaw21_texts.l0
      repeat' first
      | (with_reducible exact ih0 _ _ _)
      | (with_reducible exact LeO.refl _)
      | (with_reducible exact LeO.none _)
      | (with_reducible refine LeO.ite ?_ ?_)
      | (with_reducible refine LeO.bind ?_ (fun _ => ?_))
      | exact ih0 _ _ _
      | exact LeO.none _
      | refine LeO.ite ?_ ?_
      | refine LeO.bind ?_ (fun _ => ?_)
theorem primerlaw21_texts.mono : ∀ a0 a1 k, LeO (primerlaw21_texts.f k a0 a1) (primerlaw21_texts.f (k + 1) a0 a1) := by
  intro a0 a1 k
  have ih0 := primerlaw21_texts.mono_l k
  unfold primerlaw21_texts.f
  repeat' first
      | (with_reducible exact ih0 _ _ _)
      | (with_reducible exact LeO.refl _)
      | (with_reducible exact LeO.none _)
      | (with_reducible refine LeO.ite ?_ ?_)
      | (with_reducible refine LeO.bind ?_ (fun _ => ?_))
      | exact ih0 _ _ _
      | exact LeO.none _
      | refine LeO.ite ?_ ?_
      | refine LeO.bind ?_ (fun _ => ?_)
set_option maxHeartbeats 8000000 in
set_option maxRecDepth 100000 in
theorem primerlaw21_texts.calls (k : Nat) (A0 : Option Addr) (c0 : Nat) (l0 : List ByteArray) (A1 : Option Addr) (c1 : Nat) (l1 : List ByteArray) (r : Bool) (w : World) (hr0 : Kd.C Kd.string w A0 l0.length l0) (hc0 : l0.length ≤ c0) (hr1 : Kd.C Kd.string w A1 l1.length l1) (hc1 : l1.length ≤ c1) (h : primerlaw21_texts.f k l0 l1 = some r) :
    Calls Try.prog 58 #[.slice A0 l0.length c0, .slice A1 l1.length c1] w fun e w' => e = .returned (.bool r) ∧ Drawn0 w w' := by
  have HR0 := Aside0.mk hr0
  have HC0 := Aside0.mk hc0
  clear hr0 hc0
  have HR1 := Aside0.mk hr1
  have HC1 := Aside0.mk hc1
  clear hr1 hc1
  have H : (if (l0.length : Int) = (l1.length : Int) then (primerlaw21_texts.l0 k l0 l1 0) else (some false)) = some r := h
  clear h
  by_cases c3 : (l0.length : Int) = (l1.length : Int)
  · rw [if_pos c3] at H
    have c3b0 : ((l0.length : Int) == (l1.length : Int)) = true := beq_iff_eq.mpr c3
    have c3b1 : ((l0.length : Int) != (l1.length : Int)) = false := bne_eq_false_iff_eq.mpr c3
    have c3b2 : (l0.length == l1.length) = true := by first | simpa using c3 | (simp at c3 ⊢; omega)
    clear c3
    have H' := Aside0.mk H
    clear H
    go_enter Try.func58, Try.ntmps58
    go_wp2
    repeat (go_quiet (fail); try go_wp2)
    go_loopg [5] k (fun kq v5 w' => ∃ (x5_1 : Int), v5 = .int .i64 x5_1 ∧ Aside0 (primerlaw21_texts.l0 kq l0 l1 x5_1 = some r) ∧ Aside0 (kq ≤ k) ∧ Drawn0 w w')
    case atStart => exact ⟨(0), (by first | rfl | (simp; done) | (simp [*]; done)), H', ⟨Nat.le_refl _⟩, by repeat (first | exact Drawn0.refl _ | apply Drawn0.step)⟩
    case round =>
      clear H'
      try clear c1
      try clear p2
      try clear c3
      try clear c3b0
      try clear c3b1
      try clear c3b2
      obtain ⟨x5_1, rfl, HA, HK1, ⟨m1, rfl⟩⟩ := hrel
      cases gk with
      | zero => exact absurd HA.out (by simp [primerlaw21_texts.l0])
      | succ k1 =>
        have H := HA.out
        clear HA
        simp only [primerlaw21_texts.l0] at H
        by_cases c4 : x5_1 < (l0.length : Int)
        · rw [if_pos c4] at H
          have c4b0 : decide (x5_1 < (l0.length : Int)) = true := decide_eq_true c4
          clear c4
          by_cases c5 : 0 ≤ x5_1
          · rw [if_pos c5] at H
            have c5b0 : decide (0 ≤ x5_1) = true := decide_eq_true c5
            clear c5
            by_cases c6 : x5_1 < (l1.length : Int)
            · rw [if_pos c6] at H
              have c6b0 : decide (x5_1 < (l1.length : Int)) = true := decide_eq_true c6
              clear c6
              by_cases c7 : (rdOf ByteArray.empty l0 x5_1).toList = (rdOf ByteArray.empty l1 x5_1).toList
              · rw [if_pos c7] at H
                have c7b0 : ((rdOf ByteArray.empty l0 x5_1).toList == (rdOf ByteArray.empty l1 x5_1).toList) = true := beq_iff_eq.mpr c7
                have c7b1 : ((rdOf ByteArray.empty l0 x5_1).toList != (rdOf ByteArray.empty l1 x5_1).toList) = false := bne_eq_false_iff_eq.mpr c7
                clear c7
                have H' := Aside0.mk H
                clear H
                have p113 : 0 ≤ (x5_1 : Int) := of_decide_eq_true (by first | (with_reducible assumption) | assumption)
                have q113 : x5_1 < (l0.length : Int) := of_decide_eq_true (by first | (with_reducible assumption) | assumption)
                obtain ⟨ad113, e113, hx113_0⟩ := Kd.at_string HR0.out x5_1 p113 q113
                cases e113
                replace p113 := eq_true p113
                replace q113 := eq_true q113
                have p114 : 0 ≤ (x5_1 : Int) := of_decide_eq_true (by first | (with_reducible assumption) | assumption)
                have q114 : x5_1 < (l1.length : Int) := of_decide_eq_true (by first | (with_reducible assumption) | assumption)
                obtain ⟨ad114, e114, hx114_0⟩ := Kd.at_string HR1.out x5_1 p114 q114
                cases e114
                replace p114 := eq_true p114
                replace q114 := eq_true q114
                go_wp2
                repeat (go_quiet (fail); try go_wp2)
                go_roundg k1
                case measure => have := HK1.out; omega
                case rel => exact ⟨(wrap64 (x5_1 + 1)), (by first | rfl | (simp; done) | (simp [*]; done)), H', ⟨by have := HK1.out; omega⟩, by repeat (first | exact Drawn0.refl _ | apply Drawn0.step)⟩
              · rw [if_neg c7] at H
                have c7b0 : ((rdOf ByteArray.empty l0 x5_1).toList == (rdOf ByteArray.empty l1 x5_1).toList) = false := beq_eq_false_iff_ne.mpr c7
                have c7b1 : ((rdOf ByteArray.empty l0 x5_1).toList != (rdOf ByteArray.empty l1 x5_1).toList) = true := bne_iff_ne.mpr c7
                obtain rfl := Option.some.inj H
                have p113 : 0 ≤ (x5_1 : Int) := of_decide_eq_true (by first | (with_reducible assumption) | assumption)
                have q113 : x5_1 < (l0.length : Int) := of_decide_eq_true (by first | (with_reducible assumption) | assumption)
                obtain ⟨ad113, e113, hx113_0⟩ := Kd.at_string HR0.out x5_1 p113 q113
                cases e113
                replace p113 := eq_true p113
                replace q113 := eq_true q113
                have p114 : 0 ≤ (x5_1 : Int) := of_decide_eq_true (by first | (with_reducible assumption) | assumption)
                have q114 : x5_1 < (l1.length : Int) := of_decide_eq_true (by first | (with_reducible assumption) | assumption)
                obtain ⟨ad114, e114, hx114_0⟩ := Kd.at_string HR1.out x5_1 p114 q114
                cases e114
                replace p114 := eq_true p114
                replace q114 := eq_true q114
                go_wp2
                repeat (go_quiet (fail); try go_wp2)
                go_ret
                exact ⟨by first | rfl | (simp; done) | (simp [*]; done), by repeat (first | exact Drawn0.refl _ | apply Drawn0.step)⟩
            · rw [if_neg c6] at H
              exact absurd H (by simp)
          · rw [if_neg c5] at H
            exact absurd H (by simp)
        · rw [if_neg c4] at H
          have c4b0 : decide (x5_1 < (l0.length : Int)) = false := decide_eq_false c4
          clear c4
          obtain rfl := Option.some.inj H
          go_wp2
          repeat (go_quiet (fail); try go_wp2)
          go_ret
          exact ⟨by first | rfl | (simp; done) | (simp [*]; done), by repeat (first | exact Drawn0.refl _ | apply Drawn0.step)⟩
  · rw [if_neg c3] at H
    have c3b0 : ((l0.length : Int) == (l1.length : Int)) = false := beq_eq_false_iff_ne.mpr c3
    have c3b1 : ((l0.length : Int) != (l1.length : Int)) = true := bne_iff_ne.mpr c3
    have c3b2 : (l0.length == l1.length) = false := by first | simpa using c3 | (simp at c3 ⊢; omega)
    obtain rfl := Option.some.inj H
    go_enter Try.func58, Try.ntmps58
    go_wp2
    repeat (go_quiet (fail); try go_wp2)
    go_ret
    exact ⟨by first | rfl | (simp; done) | (simp [*]; done), by repeat (first | exact Drawn0.refl _ | apply Drawn0.step)⟩

/-! ### slices_Equal_string_string: function 82 -/
def slices_Equal_string_string.l0 : Nat → List ByteArray → List ByteArray → Int → Int → Option (Bool)
  | 0, _, _, _, _ => none
  | k + 1, x0, x1, x12, x13 => if x13 < x12 then (if 0 ≤ x13 then (if x13 < (x0.length : Int) then (if x13 < (x1.length : Int) then (if (rdOf ByteArray.empty x0 x13).toList = (rdOf ByteArray.empty x1 x13).toList then (slices_Equal_string_string.l0 k x0 x1 x12 (wrap64 (x13 + 1))) else (some false)) else (none)) else (none)) else (none)) else (some true)
def slices_Equal_string_string.f (k : Nat) (l0 : List ByteArray) (l1 : List ByteArray) : Option (Bool) := if (l0.length : Int) = (l1.length : Int) then (slices_Equal_string_string.l0 k l0 l1 (l0.length : Int) 0) else (some false)
theorem slices_Equal_string_string.mono_l : ∀ k, (∀ y0 y1 y2 y3, LeO (slices_Equal_string_string.l0 k y0 y1 y2 y3) (slices_Equal_string_string.l0 (k + 1) y0 y1 y2 y3))
  | 0 => fun _ _ _ _ r h => by simp [slices_Equal_string_string.l0] at h
  | k + 1 => by
    have ih0 := slices_Equal_string_string.mono_l k
    · intro y0 y1 y2 y3
      unfold slices_Equal_string_string.l0
      repeat' first
      | (with_reducible exact ih0 _ _ _ _)
      | (with_reducible exact LeO.refl _)
      | (with_reducible exact LeO.none _)
      | (with_reducible refine LeO.ite ?_ ?_)
      | (with_reducible refine LeO.bind ?_ (fun _ => ?_))
      | exact ih0 _ _ _ _
      | exact LeO.none _
      | refine LeO.ite ?_ ?_
      | refine LeO.bind ?_ (fun _ => ?_)
theorem slices_Equal_string_string.mono : ∀ a0 a1 k, LeO (slices_Equal_string_string.f k a0 a1) (slices_Equal_string_string.f (k + 1) a0 a1) := by
  intro a0 a1 k
  have ih0 := slices_Equal_string_string.mono_l k
  unfold slices_Equal_string_string.f
  repeat' first
      | (with_reducible exact ih0 _ _ _ _)
      | (with_reducible exact LeO.refl _)
      | (with_reducible exact LeO.none _)
      | (with_reducible refine LeO.ite ?_ ?_)
      | (with_reducible refine LeO.bind ?_ (fun _ => ?_))
      | exact ih0 _ _ _ _
      | exact LeO.none _
      | refine LeO.ite ?_ ?_
      | refine LeO.bind ?_ (fun _ => ?_)
set_option maxHeartbeats 8000000 in
set_option maxRecDepth 100000 in
theorem slices_Equal_string_string.calls (k : Nat) (A0 : Option Addr) (c0 : Nat) (l0 : List ByteArray) (A1 : Option Addr) (c1 : Nat) (l1 : List ByteArray) (r : Bool) (w : World) (hr0 : Kd.C Kd.string w A0 l0.length l0) (hc0 : l0.length ≤ c0) (hr1 : Kd.C Kd.string w A1 l1.length l1) (hc1 : l1.length ≤ c1) (h : slices_Equal_string_string.f k l0 l1 = some r) :
    Calls Try.prog 82 #[.slice A0 l0.length c0, .slice A1 l1.length c1] w fun e w' => e = .returned (.bool r) ∧ Drawn0 w w' := by
  have HR0 := Aside0.mk hr0
  have HC0 := Aside0.mk hc0
  clear hr0 hc0
  have HR1 := Aside0.mk hr1
  have HC1 := Aside0.mk hc1
  clear hr1 hc1
  have H : (if (l0.length : Int) = (l1.length : Int) then (slices_Equal_string_string.l0 k l0 l1 (l0.length : Int) 0) else (some false)) = some r := h
  clear h
  by_cases c3 : (l0.length : Int) = (l1.length : Int)
  · rw [if_pos c3] at H
    have c3b0 : ((l0.length : Int) == (l1.length : Int)) = true := beq_iff_eq.mpr c3
    have c3b1 : ((l0.length : Int) != (l1.length : Int)) = false := bne_eq_false_iff_eq.mpr c3
    have c3b2 : (l0.length == l1.length) = true := by first | simpa using c3 | (simp at c3 ⊢; omega)
    clear c3
    have H' := Aside0.mk H
    clear H
    go_enter Try.func82, Try.ntmps82
    go_wp2
    repeat (go_quiet (fail); try go_wp2)
    go_loopg [13] k (fun kq v13 w' => ∃ (x13_1 : Int), v13 = .int .i64 x13_1 ∧ Aside0 (slices_Equal_string_string.l0 kq l0 l1 (l0.length : Int) x13_1 = some r) ∧ Aside0 (kq ≤ k) ∧ Drawn0 w w')
    case atStart => exact ⟨(0), (by first | rfl | (simp; done) | (simp [*]; done)), H', ⟨Nat.le_refl _⟩, by repeat (first | exact Drawn0.refl _ | apply Drawn0.step)⟩
    case round =>
      clear H'
      try clear c1
      try clear p2
      try clear c3
      try clear c3b0
      try clear c3b1
      try clear c3b2
      obtain ⟨x13_1, rfl, HA, HK1, ⟨m1, rfl⟩⟩ := hrel
      cases gk with
      | zero => exact absurd HA.out (by simp [slices_Equal_string_string.l0])
      | succ k1 =>
        have H := HA.out
        clear HA
        simp only [slices_Equal_string_string.l0] at H
        by_cases c4 : x13_1 < (l0.length : Int)
        · rw [if_pos c4] at H
          have c4b0 : decide (x13_1 < (l0.length : Int)) = true := decide_eq_true c4
          clear c4
          by_cases c5 : 0 ≤ x13_1
          · rw [if_pos c5] at H
            have c5b0 : decide (0 ≤ x13_1) = true := decide_eq_true c5
            clear c5
            by_cases c6 : x13_1 < (l0.length : Int)
            · rw [if_pos c6] at H
              have c6b0 : decide (x13_1 < (l0.length : Int)) = true := decide_eq_true c6
              clear c6
              by_cases c7 : x13_1 < (l1.length : Int)
              · rw [if_pos c7] at H
                have c7b0 : decide (x13_1 < (l1.length : Int)) = true := decide_eq_true c7
                clear c7
                by_cases c8 : (rdOf ByteArray.empty l0 x13_1).toList = (rdOf ByteArray.empty l1 x13_1).toList
                · rw [if_pos c8] at H
                  have c8b0 : ((rdOf ByteArray.empty l0 x13_1).toList == (rdOf ByteArray.empty l1 x13_1).toList) = true := beq_iff_eq.mpr c8
                  have c8b1 : ((rdOf ByteArray.empty l0 x13_1).toList != (rdOf ByteArray.empty l1 x13_1).toList) = false := bne_eq_false_iff_eq.mpr c8
                  clear c8
                  have H' := Aside0.mk H
                  clear H
                  have p115 : 0 ≤ (x13_1 : Int) := of_decide_eq_true (by first | (with_reducible assumption) | assumption)
                  have q115 : x13_1 < (l0.length : Int) := of_decide_eq_true (by first | (with_reducible assumption) | assumption)
                  obtain ⟨ad115, e115, hx115_0⟩ := Kd.at_string HR0.out x13_1 p115 q115
                  cases e115
                  replace p115 := eq_true p115
                  replace q115 := eq_true q115
                  have p116 : 0 ≤ (x13_1 : Int) := of_decide_eq_true (by first | (with_reducible assumption) | assumption)
                  have q116 : x13_1 < (l1.length : Int) := of_decide_eq_true (by first | (with_reducible assumption) | assumption)
                  obtain ⟨ad116, e116, hx116_0⟩ := Kd.at_string HR1.out x13_1 p116 q116
                  cases e116
                  replace p116 := eq_true p116
                  replace q116 := eq_true q116
                  go_wp2
                  repeat (go_quiet (fail); try go_wp2)
                  go_roundg k1
                  case measure => have := HK1.out; omega
                  case rel => exact ⟨(wrap64 (x13_1 + 1)), (by first | rfl | (simp; done) | (simp [*]; done)), H', ⟨by have := HK1.out; omega⟩, by repeat (first | exact Drawn0.refl _ | apply Drawn0.step)⟩
                · rw [if_neg c8] at H
                  have c8b0 : ((rdOf ByteArray.empty l0 x13_1).toList == (rdOf ByteArray.empty l1 x13_1).toList) = false := beq_eq_false_iff_ne.mpr c8
                  have c8b1 : ((rdOf ByteArray.empty l0 x13_1).toList != (rdOf ByteArray.empty l1 x13_1).toList) = true := bne_iff_ne.mpr c8
                  obtain rfl := Option.some.inj H
                  have p115 : 0 ≤ (x13_1 : Int) := of_decide_eq_true (by first | (with_reducible assumption) | assumption)
                  have q115 : x13_1 < (l0.length : Int) := of_decide_eq_true (by first | (with_reducible assumption) | assumption)
                  obtain ⟨ad115, e115, hx115_0⟩ := Kd.at_string HR0.out x13_1 p115 q115
                  cases e115
                  replace p115 := eq_true p115
                  replace q115 := eq_true q115
                  have p116 : 0 ≤ (x13_1 : Int) := of_decide_eq_true (by first | (with_reducible assumption) | assumption)
                  have q116 : x13_1 < (l1.length : Int) := of_decide_eq_true (by first | (with_reducible assumption) | assumption)
                  obtain ⟨ad116, e116, hx116_0⟩ := Kd.at_string HR1.out x13_1 p116 q116
                  cases e116
                  replace p116 := eq_true p116
                  replace q116 := eq_true q116
                  go_wp2
                  repeat (go_quiet (fail); try go_wp2)
                  go_ret
                  exact ⟨by first | rfl | (simp; done) | (simp [*]; done), by repeat (first | exact Drawn0.refl _ | apply Drawn0.step)⟩
              · rw [if_neg c7] at H
                exact absurd H (by simp)
            · rw [if_neg c6] at H
              exact absurd H (by simp)
          · rw [if_neg c5] at H
            exact absurd H (by simp)
        · rw [if_neg c4] at H
          have c4b0 : decide (x13_1 < (l0.length : Int)) = false := decide_eq_false c4
          clear c4
          obtain rfl := Option.some.inj H
          go_wp2
          repeat (go_quiet (fail); try go_wp2)
          go_ret
          exact ⟨by first | rfl | (simp; done) | (simp [*]; done), by repeat (first | exact Drawn0.refl _ | apply Drawn0.step)⟩
  · rw [if_neg c3] at H
    have c3b0 : ((l0.length : Int) == (l1.length : Int)) = false := beq_eq_false_iff_ne.mpr c3
    have c3b1 : ((l0.length : Int) != (l1.length : Int)) = true := bne_iff_ne.mpr c3
    have c3b2 : (l0.length == l1.length) = false := by first | simpa using c3 | (simp at c3 ⊢; omega)
    obtain rfl := Option.some.inj H
    go_enter Try.func82, Try.ntmps82
    go_wp2
    repeat (go_quiet (fail); try go_wp2)
    go_ret
    exact ⟨by first | rfl | (simp; done) | (simp [*]; done), by repeat (first | exact Drawn0.refl _ | apply Drawn0.step)⟩

end Go.Proofs.Ytnajmemcdipknaa.PC
namespace Go.Proofs.Ytnajmemcdipknaa.PC
open Go.RowKit Go.Proofs.YtnajmemcdipknaaW.PrintWords Go.Proofs.YtnajmemcdipknaaW.PrintLast Go.Proofs.YtnajmemcdipknaaW.PrintMore
attribute [local go_sem] max2_int min2_int max_two min_two max_three min_three max_four min_four   -- for this text's walks alone
set_option linter.unusedVariables false
set_option linter.unusedSimpArgs false

end Go.Proofs.Ytnajmemcdipknaa.PC
namespace Go.Proofs.Ytnajmemcdipknaa.PK
open Go.RowKit Go.Proofs.YtnajmemcdipknaaW.PrintWords Go.Proofs.YtnajmemcdipknaaW.PrintLast Go.Proofs.YtnajmemcdipknaaW.PrintMore
open Go.ChangeShapes Go.WideShapes
set_option linter.unusedVariables false
set_option linter.unusedSimpArgs false
set_option maxRecDepth 100000
/-- What takes numbers, yes and no, texts and counts: I says what it holds, ok how much it may hold. -/
structure Takes (p : Value) (ok : Nat → Prop) (I : World → List Int → Bool → Prop) : Prop where
  int : ∀ w l bad n, I w l bad → ok (l.length + 8) → Calls Try.prog 40 #[p, .int .i64 n] w fun e w' => e = .returned (.tuple #[]) ∧ I w' (l ++ putL n) (bad || !fitsN n)
  count : ∀ w l bad n, I w l bad → ok (l.length + 8) → Calls Try.prog 92 #[p, .int .i64 n] w fun e w' => e = .returned (.tuple #[]) ∧ I w' (l ++ putL n) (bad || !decide (n ≤ 65536))
  text : ∀ w l bad s, I w l bad → ok (l.length + 65544) → Calls Try.prog 41 #[p, .string s] w fun e w' => e = .returned (.tuple #[]) ∧ I w' (l ++ textL s) (bad || decide (65536 < s.size))
def textsL (xs : List ByteArray) : List Int := putL xs.length ++ xs.flatMap textL
def badTexts (xs : List ByteArray) : Bool := !decide ((xs.length : Int) ≤ 65536) || xs.any fun s => decide (65536 < s.size)
theorem flat_le {α : Type} (f : α → List Int) (m : Nat) (hf : ∀ x, (f x).length ≤ m) (xs : List α) : (xs.flatMap f).length ≤ m * xs.length := by
  induction xs with
  | nil => simp
  | cons a xs ih =>
    rw [List.flatMap_cons, List.length_append, List.length_cons, Nat.mul_add, Nat.mul_one]
    have := hf a; omega
theorem take_mul {α : Type} (m : Nat) (xs : List α) (j : Nat) : m * (xs.take j).length ≤ m * xs.length := Nat.mul_le_mul_left _ (by rw [List.length_take]; omega)
theorem textL_len (s : ByteArray) : (textL s).length ≤ 65544 := by
  unfold textL
  split
  · simp
  · have := putL_len s.size
    rw [List.length_append, bytesOf_len]; omega
theorem flat_take {α : Type} (f : α → List Int) (xs : List α) (j : Nat) (h : j < xs.length) : (xs.take (j + 1)).flatMap f = (xs.take j).flatMap f ++ f xs[j] := by
  rw [List.take_succ_eq_append_getElem h, List.flatMap_append]; simp
theorem any_take {α : Type} (f : α → Bool) (xs : List α) (j : Nat) (h : j < xs.length) : (xs.take (j + 1)).any f = ((xs.take j).any f || f xs[j]) := by
  rw [List.take_succ_eq_append_getElem h, List.any_append]; simp
section
variable {p : Value} {ok : Nat → Prop} {I : World → List Int → Bool → Prop} (HT : Takes p ok I)
include HT
set_option maxHeartbeats 1600000 in
theorem out_texts (A : Option Addr) (c : Nat) (xs : List ByteArray) (l : List Int) (bad : Bool) (w : World) (hI : I w l bad)
    (hR : ∀ w' l' bad', I w' l' bad' → Kd.C Kd.string w' A xs.length xs) (hok : ∀ n, n ≤ l.length + (65544 * xs.length + 70000) → ok n) (hp : ∃ a, p = .pointer a) :
    Calls Try.prog 42 #[p, .slice A xs.length c] w fun e w' => e = .returned (.tuple #[]) ∧ I w' (l ++ textsL xs) (bad || badTexts xs) := by
  obtain ⟨a, rfl⟩ := hp
  have H0 := Aside0.mk hI
  have HR := Aside0.mk hR
  have HOK := Aside0.mk hok
  clear hI hR hok
  have hlen := putL_len xs.length
  have hfl : ∀ j, ((xs.take j).flatMap textL).length ≤ 65544 * xs.length := fun j => Nat.le_trans (flat_le textL 65544 textL_len _) (take_mul _ xs j)
  have HF := Aside0.mk hfl
  have HL := Aside0.mk hlen
  clear hfl hlen
  go_enter Try.func42, Try.ntmps42
  go_wp2_with fail
  refine (HT.count w l bad xs.length H0.out (HOK.out _ (by omega))).mono ?_
  rintro e w1 ⟨rfl, hI1⟩
  have HI1 := Aside0.mk hI1
  clear hI1
  go_wp2_with fail
  go_loopw [5, 12] (fun _ i wr => ∃ j : Nat, j ≤ xs.length ∧ i = .int .i64 j ∧ Aside0 (I wr (l ++ putL xs.length ++ (xs.take j).flatMap textL) (bad || !decide ((xs.length : Int) ≤ 65536) || (xs.take j).any fun s => decide (65536 < s.size)))) (fun _ i _ => xs.length - (intOf i).toNat)
  case atStart => exact ⟨0, Nat.zero_le _, rfl, ⟨by simpa using HI1.out⟩⟩
  case round =>
    obtain ⟨j, hj, rfl, hrel⟩ := hrel
    clear HI1
    by_cases hjn : j < xs.length
    · have hmx := (HR.out _ _ _ hrel.out).2.1
      obtain ⟨ad, rfl, hcell⟩ := C_str (HR.out _ _ _ hrel.out) j hjn
      have hd : decide ((j : Int) < (xs.length : Int)) = true := by simp; omega
      obtain ⟨x, hx⟩ : ∃ x, x = xs[j] := ⟨_, rfl⟩
      rw [← hx] at hcell
      have HX := Aside0.mk hx
      clear hx
      go_wp2_with fail
      refine (HT.text wr _ _ x hrel.out (HOK.out _ (by have := HF.out j; have := HL.out; simp only [List.length_append]; omega))).mono ?_
      rintro e w2 ⟨rfl, hI2⟩
      have HI2 := Aside0.mk hI2
      clear hI2 hrel hcell
      go_wp2_with fail
      go_roundw
      case rel =>
        refine ⟨j + 1, by omega, by go_num, ⟨?_⟩⟩
        have h := HI2.out
        rw [flat_take textL xs j hjn, any_take _ xs j hjn, ← List.append_assoc, ← Bool.or_assoc, ← HX.out]
        exact h
      case measure => simp [intOf]; omega
    · obtain rfl : xs.length = j := by omega
      have hd : decide ((xs.length : Int) < (xs.length : Int)) = false := by simp
      go_wp2
      go_end0
      refine ⟨rfl, ?_⟩
      have h := hrel.out
      rw [List.take_length] at h
      unfold textsL badTexts
      rw [← List.append_assoc, ← Bool.or_assoc]
      exact h
end
end Go.Proofs.Ytnajmemcdipknaa.PK
namespace Go.Proofs.Ytnajmemcdipknaa.PK
open Go.RowKit Go.Proofs.YtnajmemcdipknaaW.PrintWords Go.Proofs.YtnajmemcdipknaaW.PrintLast Go.Proofs.YtnajmemcdipknaaW.PrintMore
open Go.ChangeShapes Go.WideShapes
set_option linter.unusedVariables false
set_option linter.unusedSimpArgs false
set_option maxRecDepth 100000
/-- An Out, from a world on. -/
def OutI (w0 : World) (b o : Nat) (T : TypeId) (cs : Array Value) (base : Nat) (w' : World) (l : List Int) (bad : Bool) : Prop := OutB w' b o T cs base l bad ∧ OutK w0 w' b base ∧ base ≤ w'.heap.size
theorem takes_out (w0 : World) (b o : Nat) (T : TypeId) (cs : Array Value) (base : Nat) : Takes (.pointer (some ⟨b, o, none⟩)) (fun n => n ≤ 140737488355328) (OutI w0 b o T cs base) where
  int w l bad n h hl := (out_int b o T cs base l bad w h.1 h.2.2 n hl).mono fun e w' ⟨he, hb, hk⟩ => ⟨he, hb, h.2.1.trans hk, Nat.le_trans h.2.2 hk.size⟩
  count w l bad n h hl := (out_count b o T cs base l bad w h.1 h.2.2 n hl).mono fun e w' ⟨he, hb, hk⟩ => ⟨he, hb, h.2.1.trans hk, Nat.le_trans h.2.2 hk.size⟩
  text w l bad n h hl := (out_text b o T cs base l bad w h.1 h.2.2 n hl).mono fun e w' ⟨he, hb, hk⟩ => ⟨he, hb, h.2.1.trans hk, Nat.le_trans h.2.2 hk.size⟩
theorem fits_in {n : Int} (h : -9007199254740992 ≤ n) (h2 : n ≤ 9007199254740992) : fitsN n = true := by unfold fitsN; simp; omega
theorem fits_hi {n : Int} (h : ¬ n ≤ 9007199254740992) : fitsN n = false := by unfold fitsN; simp; omega
theorem fits_lo {n : Int} (h : ¬ -9007199254740992 ≤ n) : fitsN n = false := by unfold fitsN; simp; omega
theorem outI_below {w w1 wr : World} {b o : Nat} {T : TypeId} {cs : Array Value} {base : Nat} {l : List Int} {bad : Bool} (h1 : Below w.heap.size w w1) (h : OutI w1 b o T cs base wr l bad) (hb : w.heap.size ≤ base) (hb2 : w.heap.size ≤ b) : Below w.heap.size w wr := h1.trans (h.2.1.below hb hb2)
end Go.Proofs.Ytnajmemcdipknaa.PK
