/- Reading, in plain words: what the program's In and the document's In tell is the same function. Condition: the bytes are no more than 2^47. -/
import Derived.Test.YtcflcmoblngfbaaKr
import Derived.Test.YtcflcmoblngfbaaPKx5
namespace Go.Proofs.Ytcflcmoblngfbaa.PK
open Go.RowKit Go.Proofs.YtcflcmoblngfbaaW.PrintWords Go.Proofs.YtcflcmoblngfbaaW.PrintLast Go.Proofs.YtcflcmoblngfbaaW.PrintMore
set_option linter.unusedVariables false
set_option linter.unusedSimpArgs false
def inInt (s : ByteArray) (e : Int) : Int × ByteArray × Int :=
  if e = 0 then (if (getA s).2.2 = 0 then ((getA s).1, s.extract (getA s).2.1.toNat s.size, 0) else (0, s, (getA s).2.2)) else (0, s, e)
theorem getA_ok (s : ByteArray) (h : (getA s).2.2 = 0) : 1 ≤ (getA s).2.1 ∧ (getA s).2.1 ≤ s.size ∧ (getA s).2.1 ≤ 8 ∧ -9007199254740992 ≤ (getA s).1 ∧ (getA s).1 ≤ 9007199254740992 ∧ putL (getA s).1 = (bytesOf s).take (getA s).2.1.toNat := by
  have := put_get s (getA s).1 (getA s).2.1 (by rw [← h])
  exact ⟨this.2.1, this.2.2.1, this.2.2.2.1, this.2.2.2.2.1, this.2.2.2.2.2, this.1⟩
theorem ext_size (s : ByteArray) (k : Nat) : (s.extract k s.size).size = s.size - k := by
  rw [← bytesOf_len, bytesOf_extract, ← bytesOf_len]; simp
theorem ext0_size (s : ByteArray) (k : Nat) (h : k ≤ s.size) : (s.extract 0 k).size = k := by
  rw [← bytesOf_len, bytesOf_extract]; simp [bytesOf_len]; omega
theorem inInt_size (s : ByteArray) (e : Int) : (inInt s e).2.1.size ≤ s.size := by
  unfold inInt
  split
  · split
    · show (s.extract _ s.size).size ≤ _; rw [ext_size]; omega
    · exact Nat.le_refl _
  · exact Nat.le_refl _
theorem inInt_range (s : ByteArray) (e : Int) : -9007199254740992 ≤ (inInt s e).1 ∧ (inInt s e).1 ≤ 9007199254740992 := by
  unfold inInt
  split
  · split
    · rename_i h; have := getA_ok s h; exact ⟨this.2.2.2.1, this.2.2.2.2.1⟩
    · exact ⟨by show (-9007199254740992 : Int) ≤ 0; omega, by show (0 : Int) ≤ 9007199254740992; omega⟩
  · exact ⟨by show (-9007199254740992 : Int) ≤ 0; omega, by show (0 : Int) ≤ 9007199254740992; omega⟩
theorem inInt_err (s : ByteArray) (e : Int) (h : (inInt s e).2.2 ≠ 0) : (inInt s e).1 = 0 := by
  unfold inInt at h ⊢
  split
  · split
    · rename_i h1 h2; rw [if_pos h1, if_pos h2] at h; exact absurd rfl h
    · rfl
  · rfl
theorem In_Int_eq (s : ByteArray) (e : Int) : octets_In_Int.f s e = some (inInt s e) := by
  unfold octets_In_Int.f octets_In_ready.f inInt
  simp only [Option.bind_some]
  by_cases h : e = 0
  · subst h
    unfold octets_Get.f octets_In_fail.f
    simp only [beq_self_eq_true, if_true, Option.bind_some]
    by_cases h2 : (getA s).2.2 = 0
    · have := getA_ok s h2
      rw [if_pos h2, if_pos h2, if_pos (by omega), if_pos (by omega)]
    · rw [if_neg h2, if_neg h2]
  · have : (e == 0) = false := by rw [beq_eq_false_iff_ne]; exact h
    rw [this, if_neg h]
    rfl
theorem ref_Int_eq (s : ByteArray) (e : Int) (hs : s.size ≤ 140737488355328) (k : Nat) (hk : 25 ≤ k) : primerref01_Int.f k s e = some (inInt s e) := by
  unfold primerref01_Int.f inInt
  by_cases h : e = 0
  · subst h
    simp only [if_true]
    rw [refGet_eq s (by omega) k hk, Option.bind_some]
    by_cases h2 : (getA s).2.2 = 0
    · have := getA_ok s h2
      rw [if_pos h2, if_pos h2, if_pos (by omega), if_pos (by omega)]
    · rw [if_neg h2, if_neg h2]
  · rw [if_neg h, if_neg h]
def inBool (s : ByteArray) (e : Int) : Bool × ByteArray × Int :=
  if e = 0 then (if s.size = 0 then (false, s, 3) else if bt s 0 > 1 then (false, s, 2) else ((bt s 0 == 1), s.extract 1 s.size, 0)) else (false, s, e)
theorem inBool_size (s : ByteArray) (e : Int) : (inBool s e).2.1.size ≤ s.size := by
  unfold inBool
  repeat' split
  all_goals first | exact Nat.le_refl _ | (show (s.extract _ s.size).size ≤ _; rw [ext_size]; omega)
theorem In_Bool_eq (s : ByteArray) (e : Int) : octets_In_Bool.f s e = some (inBool s e) := by
  unfold octets_In_Bool.f octets_In_ready.f inBool octets_In_fail.f
  simp only [Option.bind_some]
  by_cases h : e = 0
  · subst h
    simp only [beq_self_eq_true, if_true, Option.bind_some]
    by_cases h2 : s.size = 0
    · rw [if_pos ((toList_nil_iff s).mpr h2), if_pos h2]
    · rw [if_neg (fun h => h2 ((toList_nil_iff s).mp h)), if_neg h2, if_pos (by omega)]
      by_cases h3 : bt s 0 > 1
      · rw [if_pos h3, if_pos h3]
      · rw [if_neg h3, if_neg h3, if_pos (by omega)]
  · have : (e == 0) = false := by rw [beq_eq_false_iff_ne]; exact h
    simp [this, h]
theorem ref_Bool_eq (s : ByteArray) (e : Int) : primerref01_Bool.f s e = some (inBool s e) := by
  unfold primerref01_Bool.f inBool
  by_cases h : e = 0
  · subst h
    simp only [if_true]
    by_cases h2 : s.size = 0
    · rw [if_pos ((toList_nil_iff s).mpr h2), if_pos h2]
    · rw [if_neg (fun h => h2 ((toList_nil_iff s).mp h)), if_neg h2, if_pos (by omega)]
      by_cases h3 : bt s 0 > 1
      · rw [if_pos h3, if_pos h3]
      · rw [if_neg h3, if_neg h3, if_pos (by omega)]
  · rw [if_neg h, if_neg h]
/-- The error that a length's number is. -/
def sizeErr (n most : Int) : Int := if n < 0 then 2 else if n > most ∨ n > 65536 then 6 else 0
def inSize (s : ByteArray) (e most : Int) : Int × ByteArray × Int :=
  if (inInt s e).2.2 = 0 then (if sizeErr (inInt s e).1 most = 0 then (inInt s e).1 else 0, (inInt s e).2.1, sizeErr (inInt s e).1 most) else (0, (inInt s e).2.1, (inInt s e).2.2)
theorem inSize_ok (s : ByteArray) (e most : Int) (h : (inSize s e most).2.2 = 0) : 0 ≤ (inSize s e most).1 ∧ (inSize s e most).1 ≤ 65536 ∧ (inSize s e most).1 ≤ most := by
  unfold inSize at h ⊢
  split at h
  · rename_i h1
    have h' : sizeErr (inInt s e).1 most = 0 := h
    rw [if_pos h1]
    show 0 ≤ (if sizeErr (inInt s e).1 most = 0 then (inInt s e).1 else 0) ∧ (if sizeErr (inInt s e).1 most = 0 then (inInt s e).1 else 0) ≤ 65536 ∧ (if sizeErr (inInt s e).1 most = 0 then (inInt s e).1 else 0) ≤ most
    rw [if_pos h']
    unfold sizeErr at h'
    split at h'
    · omega
    · split at h' <;> omega
  · rename_i h1
    exact absurd h h1
theorem inSize_err (s : ByteArray) (e most : Int) (h : (inSize s e most).2.2 ≠ 0) : (inSize s e most).1 = 0 := by
  unfold inSize at h ⊢
  split
  · rename_i h1
    rw [if_pos h1] at h
    exact if_neg h
  · rfl
theorem inSize_size (s : ByteArray) (e most : Int) : (inSize s e most).2.1.size ≤ s.size := by
  unfold inSize
  have := inInt_size s e
  split <;> exact this
theorem In_size_eq (s : ByteArray) (e most : Int) (k : Nat) (hk : 1 ≤ k) : octets_In_size.f k s e most = some (inSize s e most) := by
  obtain ⟨k, rfl⟩ : ∃ j, k = j + 1 := ⟨k - 1, by omega⟩
  unfold octets_In_size.f
  rw [In_Int_eq, Option.bind_some]
  have herr := inInt_err s e
  unfold inSize
  generalize inInt s e = r at herr ⊢
  obtain ⟨n, s1, e1⟩ := r
  simp only at herr ⊢
  unfold octets_In_fail.f octets_In_ready.f
  by_cases h1 : e1 = 0
  · subst h1
    simp only [if_true, Option.bind_some]
    by_cases h2 : n < 0
    · have : sizeErr n most = 2 := by unfold sizeErr; rw [if_pos h2]
      rw [if_pos h2, this]
      simp
    · rw [if_neg h2]
      by_cases h3 : n > most
      · have : sizeErr n most = 6 := by unfold sizeErr; rw [if_neg h2, if_pos (.inl h3)]
        rw [if_pos h3, this]
        simp [octets_In_size.j0, octets_In_fail.f, octets_In_ready.f]
      · rw [if_neg h3]
        by_cases h4 : n > 65536
        · have : sizeErr n most = 6 := by unfold sizeErr; rw [if_neg h2, if_pos (.inr h4)]
          have hd : decide (n > 65536) = true := by simp; omega
          rw [this, hd]
          simp [octets_In_size.j0, octets_In_fail.f, octets_In_ready.f]
        · have : sizeErr n most = 0 := by unfold sizeErr; rw [if_neg h2, if_neg (by omega)]
          have hd : decide (n > 65536) = false := by simp; omega
          rw [this, hd]
          simp [octets_In_size.j0, octets_In_fail.f, octets_In_ready.f]
  · have hn : n = 0 := herr h1
    subst hn
    have hb : (e1 == 0) = false := by rw [beq_eq_false_iff_ne]; exact h1
    rw [if_neg (by omega), if_neg h1]
    by_cases h3 : (0 : Int) > most
    · rw [if_pos h3]
      simp [octets_In_size.j0, octets_In_fail.f, octets_In_ready.f, h1, hb]
    · rw [if_neg h3]
      simp [octets_In_size.j0, octets_In_fail.f, octets_In_ready.f, h1, hb]
theorem ref_Size_eq (s : ByteArray) (e most : Int) (hs : s.size ≤ 140737488355328) (k : Nat) (hk : 30 ≤ k) : primerref01_Size.f k s e most = some (inSize s e most) := by
  obtain ⟨k, rfl⟩ : ∃ j, k = j + 1 + 1 + 1 := ⟨k - 3, by omega⟩
  unfold primerref01_Size.f
  rw [ref_Int_eq s e hs _ (by omega), Option.bind_some]
  have herr := inInt_err s e
  unfold inSize
  generalize inInt s e = r at herr ⊢
  obtain ⟨n, s1, e1⟩ := r
  simp only at herr ⊢
  by_cases h1 : e1 = 0
  · subst h1
    simp only [if_true]
    by_cases h2 : n < 0
    · have : sizeErr n most = 2 := by unfold sizeErr; rw [if_pos h2]
      have hd : decide (n < 0) = true := by simp; omega
      rw [this, hd]
      simp [primerref01_Size.j0, primerref01_Size.j1, primerref01_Size.j2]
    · have hd : decide (n < 0) = false := by simp; omega
      rw [hd]
      by_cases h3 : n > most
      · have : sizeErr n most = 6 := by unfold sizeErr; rw [if_neg h2, if_pos (.inl h3)]
        rw [this]
        simp [primerref01_Size.j0, primerref01_Size.j1, primerref01_Size.j2, h3]
      · by_cases h4 : n > 65536
        · have : sizeErr n most = 6 := by unfold sizeErr; rw [if_neg h2, if_pos (.inr h4)]
          rw [this]
          simp [primerref01_Size.j0, primerref01_Size.j1, primerref01_Size.j2, h3, h4]
        · have : sizeErr n most = 0 := by unfold sizeErr; rw [if_neg h2, if_neg (by omega)]
          rw [this]
          simp [primerref01_Size.j0, primerref01_Size.j1, primerref01_Size.j2, h3, h4]
  · rw [if_neg h1, if_neg h1]
    simp [primerref01_Size.j0, primerref01_Size.j1, primerref01_Size.j2, h1]
def inText (s : ByteArray) (e : Int) : ByteArray × ByteArray × Int :=
  if (inSize s e 65536).2.2 = 0 then
    (if (inSize s e 65536).1 > ((inSize s e 65536).2.1.size : Int) then ((⟨#[]⟩ : ByteArray), (inSize s e 65536).2.1, 3)
     else ((inSize s e 65536).2.1.extract 0 (inSize s e 65536).1.toNat, (inSize s e 65536).2.1.extract (inSize s e 65536).1.toNat (inSize s e 65536).2.1.size, 0))
  else ((⟨#[]⟩ : ByteArray), (inSize s e 65536).2.1, (inSize s e 65536).2.2)
theorem inSize_stop (s : ByteArray) (e most : Int) (h : e ≠ 0) : inSize s e most = (0, s, e) := by
  have : inInt s e = (0, s, e) := by unfold inInt; rw [if_neg h]
  unfold inSize
  rw [this, if_neg h]
theorem inText_stop (s : ByteArray) (e : Int) (h : e ≠ 0) : inText s e = (⟨#[]⟩, s, e) := by
  unfold inText
  rw [inSize_stop s e _ h, if_neg h]
theorem inText_size (s : ByteArray) (e : Int) : (inText s e).2.1.size ≤ s.size ∧ (inText s e).1.size ≤ 65536 := by
  have h := inSize_size s e 65536
  have h0 := inSize_ok s e 65536
  unfold inText
  split
  · rename_i h1
    have := h0 h1
    split
    · exact ⟨h, Nat.zero_le _⟩
    · refine ⟨?_, ?_⟩
      · show ((inSize s e 65536).2.1.extract _ (inSize s e 65536).2.1.size).size ≤ _
        rw [ext_size]; omega
      · show ((inSize s e 65536).2.1.extract 0 _).size ≤ _
        rw [ext0_size _ _ (by omega)]; omega
  · exact ⟨h, Nat.zero_le _⟩
theorem In_Text_eq (s : ByteArray) (e : Int) (k : Nat) (hk : 1 ≤ k) : octets_In_Text.f k s e = some (inText s e) := by
  unfold octets_In_Text.f octets_In_ready.f
  simp only [Option.bind_some]
  by_cases h : e = 0
  · subst h
    simp only [beq_self_eq_true, if_true]
    rw [In_size_eq s 0 65536 k hk, Option.bind_some]
    obtain ⟨k, rfl⟩ : ∃ j, k = j + 1 := ⟨k - 1, by omega⟩
    have h0 := inSize_ok s 0 65536
    have hsz := inSize_size s 0 65536
    unfold inText
    generalize inSize s 0 65536 = r at h0 hsz ⊢
    obtain ⟨n, s1, e1⟩ := r
    simp only at h0 hsz ⊢
    simp only [octets_In_Text.j0, octets_In_ready.f, octets_In_fail.f, Option.bind_some]
    by_cases h1 : e1 = 0
    · subst h1
      have := h0 rfl
      simp only [beq_self_eq_true, if_true, Option.bind_some]
      by_cases h2 : n > (s1.size : Int)
      · rw [if_pos h2, if_pos h2]
      · rw [if_neg h2, if_neg h2, if_pos (by omega), if_pos (by omega)]
    · have hb : (e1 == 0) = false := by rw [beq_eq_false_iff_ne]; exact h1
      simp [hb, h1]
  · have hb : (e == 0) = false := by rw [beq_eq_false_iff_ne]; exact h
    obtain ⟨k, rfl⟩ : ∃ j, k = j + 1 := ⟨k - 1, by omega⟩
    rw [inText_stop s e h]
    simp [octets_In_Text.j0, octets_In_ready.f, octets_In_fail.f, hb]
theorem ref_Text_eq (s : ByteArray) (e : Int) (hs : s.size ≤ 140737488355328) (k : Nat) (hk : 31 ≤ k) : primerref01_Text.f k s e = some (inText s e) := by
  obtain ⟨k, rfl⟩ : ∃ j, k = j + 1 := ⟨k - 1, by omega⟩
  unfold primerref01_Text.f
  rw [ref_Size_eq s e 65536 hs _ (by omega), Option.bind_some]
  have h0 := inSize_ok s e 65536
  unfold inText
  generalize inSize s e 65536 = r at h0 ⊢
  obtain ⟨n, s1, e1⟩ := r
  simp only at h0 ⊢
  by_cases h1 : e1 = 0
  · subst h1
    have := h0 rfl
    simp only [if_true]
    by_cases h2 : n > (s1.size : Int)
    · have hd : decide (n > (s1.size : Int)) = true := by simp; omega
      rw [if_pos h2, hd]
      simp [primerref01_Text.j0]
    · have hd : decide (n > (s1.size : Int)) = false := by simp; omega
      rw [if_neg h2, hd]
      simp only [primerref01_Text.j0, Bool.false_eq_true, if_false, if_true]
      rw [if_pos (by omega), if_pos (by omega)]
  · rw [if_neg h1, if_neg h1]
    simp [primerref01_Text.j0, h1]
/-- So many of them, one behind the other; none where one fails. -/
def seqL {α : Type} (f : ByteArray → α × ByteArray × Int) : Nat → ByteArray → List α × ByteArray × Int
  | 0, s => ([], s, 0)
  | n + 1, s =>
    if (f s).2.2 = 0 then
      (if (seqL f n (f s).2.1).2.2 = 0 then ((f s).1 :: (seqL f n (f s).2.1).1, (seqL f n (f s).2.1).2.1, 0) else ([], (seqL f n (f s).2.1).2.1, (seqL f n (f s).2.1).2.2))
    else ([], (f s).2.1, (f s).2.2)
def inSeq {α : Type} (f : ByteArray → α × ByteArray × Int) (s : ByteArray) (e most : Int) : List α × ByteArray × Int :=
  if (inSize s e most).2.2 = 0 then seqL f (inSize s e most).1.toNat (inSize s e most).2.1 else ([], (inSize s e most).2.1, (inSize s e most).2.2)
def inInts (s : ByteArray) (e most : Int) : List Int × ByteArray × Int := inSeq (fun s => inInt s 0) s e most
def inTexts (s : ByteArray) (e most : Int) : List ByteArray × ByteArray × Int := inSeq (fun s => inText s 0) s e most
theorem seqL_len {α : Type} (f : ByteArray → α × ByteArray × Int) (n : Nat) (s : ByteArray) : (seqL f n s).1.length ≤ n := by
  induction n generalizing s with
  | zero => simp [seqL]
  | succ n ih =>
    simp only [seqL]
    split
    · split
      · simp; exact ih _
      · simp
    · simp
theorem seqL_size {α : Type} (f : ByteArray → α × ByteArray × Int) (hf : ∀ s, (f s).2.1.size ≤ s.size) (n : Nat) (s : ByteArray) : (seqL f n s).2.1.size ≤ s.size := by
  induction n generalizing s with
  | zero => simp [seqL]
  | succ n ih =>
    have h1 := hf s
    have h2 := ih (f s).2.1
    simp only [seqL]
    split
    · split
      · show (seqL f n (f s).2.1).2.1.size ≤ _; omega
      · show (seqL f n (f s).2.1).2.1.size ≤ _; omega
    · exact h1
theorem seqL_err {α : Type} (f : ByteArray → α × ByteArray × Int) (n : Nat) (s : ByteArray) (h : (seqL f n s).2.2 ≠ 0) : (seqL f n s).1 = [] := by
  cases n with
  | zero => exact absurd rfl h
  | succ n =>
    simp only [seqL] at h ⊢
    split
    · rename_i h2
      rw [if_pos h2] at h
      split
      · rename_i h3; rw [if_pos h3] at h; exact absurd rfl h
      · rfl
    · rfl
/-- What a loop that gathers has told at its end. -/
def gath {α : Type} (f : ByteArray → α × ByteArray × Int) (acc : List α) (r : Nat) (s : ByteArray) : List α × ByteArray × Int :=
  (if (seqL f r s).2.2 = 0 then acc ++ (seqL f r s).1 else [], (seqL f r s).2.1, (seqL f r s).2.2)
theorem gath_zero {α : Type} (f : ByteArray → α × ByteArray × Int) (acc : List α) (s : ByteArray) : gath f acc 0 s = (acc, s, 0) := by simp [gath, seqL]
theorem gath_ok {α : Type} (f : ByteArray → α × ByteArray × Int) (acc : List α) (r : Nat) (s : ByteArray) (h : (f s).2.2 = 0) : gath f acc (r + 1) s = gath f (acc ++ [(f s).1]) r (f s).2.1 := by
  unfold gath
  simp only [seqL, h, if_true]
  by_cases hh : (seqL f r (f s).2.1).2.2 = 0
  · simp [hh]
  · simp [hh]
theorem gath_bad {α : Type} (f : ByteArray → α × ByteArray × Int) (acc : List α) (r : Nat) (s : ByteArray) (h : (f s).2.2 ≠ 0) : gath f acc (r + 1) s = ([], (f s).2.1, (f s).2.2) := by
  unfold gath
  simp [seqL, h]
theorem gath_all {α : Type} (f : ByteArray → α × ByteArray × Int) (r : Nat) (s : ByteArray) : gath f [] r s = seqL f r s := by
  unfold gath
  by_cases h : (seqL f r s).2.2 = 0
  · rw [if_pos h]; rfl
  · rw [if_neg h]
    have := seqL_err f r s h
    rw [← this]
theorem inSeq_stop {α : Type} (f : ByteArray → α × ByteArray × Int) (s : ByteArray) (e most : Int) (h : e ≠ 0) : inSeq f s e most = ([], s, e) := by
  unfold inSeq
  rw [inSize_stop s e _ h, if_neg h]
theorem In_Ints_l0 (r : Nat) : ∀ (k : Nat) (acc : List Int) (n i : Int) (s : ByteArray), 0 ≤ i → i + r = n → n ≤ 65536 → acc.length + r ≤ 65536 → r < k →
    octets_In_Ints.l0 k acc n i s 0 = some (gath (fun s => inInt s 0) acc r s) := by
  induction r with
  | zero =>
    intro k acc n i s h0 h1 h2 h3 hk
    obtain ⟨k, rfl⟩ : ∃ j, k = j + 1 := ⟨k - 1, by omega⟩
    simp only [octets_In_Ints.l0]
    rw [if_neg (by omega), gath_zero]
  | succ r ih =>
    intro k acc n i s h0 h1 h2 h3 hk
    obtain ⟨k, rfl⟩ : ∃ j, k = j + 1 := ⟨k - 1, by omega⟩
    simp only [octets_In_Ints.l0]
    rw [if_pos (by omega), In_Int_eq, Option.bind_some, if_pos (by omega)]
    unfold octets_In_ready.f
    simp only [Option.bind_some]
    by_cases h : (inInt s 0).2.2 = 0
    · rw [gath_ok _ _ _ _ h, h, w64 _ (by omega) (by omega)]
      simp only [beq_self_eq_true, if_true]
      exact ih k _ n (i + 1) _ (by omega) (by omega) h2 (by simp; omega) (by omega)
    · have hb : ((inInt s 0).2.2 == 0) = false := by rw [beq_eq_false_iff_ne]; exact h
      rw [gath_bad _ _ _ _ h, hb]
      rfl
theorem In_Texts_l0 (r : Nat) : ∀ (k : Nat) (acc : List ByteArray) (n i : Int) (s : ByteArray), 0 ≤ i → i + r = n → n ≤ 65536 → acc.length + r ≤ 65536 → r + 1 < k →
    octets_In_Texts.l0 k acc n i s 0 = some (gath (fun s => inText s 0) acc r s) := by
  induction r with
  | zero =>
    intro k acc n i s h0 h1 h2 h3 hk
    obtain ⟨k, rfl⟩ : ∃ j, k = j + 1 := ⟨k - 1, by omega⟩
    simp only [octets_In_Texts.l0]
    rw [if_neg (by omega), gath_zero]
  | succ r ih =>
    intro k acc n i s h0 h1 h2 h3 hk
    obtain ⟨k, rfl⟩ : ∃ j, k = j + 1 := ⟨k - 1, by omega⟩
    simp only [octets_In_Texts.l0]
    rw [if_pos (by omega), In_Text_eq _ _ _ (by omega), Option.bind_some, if_pos (by omega)]
    unfold octets_In_ready.f
    simp only [Option.bind_some]
    by_cases h : (inText s 0).2.2 = 0
    · rw [gath_ok _ _ _ _ h, h, w64 _ (by omega) (by omega)]
      simp only [beq_self_eq_true, if_true]
      exact ih k _ n (i + 1) _ (by omega) (by omega) h2 (by simp; omega) (by omega)
    · have hb : ((inText s 0).2.2 == 0) = false := by rw [beq_eq_false_iff_ne]; exact h
      rw [gath_bad _ _ _ _ h, hb]
      rfl
theorem In_Ints_eq (s : ByteArray) (e most : Int) (k : Nat) (hk : 65538 ≤ k) : octets_In_Ints.f k s e most = some (inInts s e most) := by
  unfold octets_In_Ints.f octets_In_ready.f inInts
  simp only [Option.bind_some]
  by_cases h : e = 0
  · subst h
    simp only [beq_self_eq_true, if_true]
    rw [In_size_eq s 0 most k (by omega), Option.bind_some]
    unfold inSeq
    by_cases h1 : (inSize s 0 most).2.2 = 0
    · have := inSize_ok s 0 most h1
      rw [if_pos h1, h1, In_Ints_l0 (inSize s 0 most).1.toNat k [] _ 0 _ (by omega) (by omega) (by omega) (by simp; omega) (by omega), gath_all]
    · have hz := inSize_err s 0 most h1
      rw [if_neg h1, hz]
      obtain ⟨k, rfl⟩ : ∃ j, k = j + 1 := ⟨k - 1, by omega⟩
      simp [octets_In_Ints.l0]
  · have hb : (e == 0) = false := by rw [beq_eq_false_iff_ne]; exact h
    rw [hb, inSeq_stop _ s e most h]
    rfl
theorem In_Texts_eq (s : ByteArray) (e most : Int) (k : Nat) (hk : 65539 ≤ k) : octets_In_Texts.f k s e most = some (inTexts s e most) := by
  unfold octets_In_Texts.f octets_In_ready.f inTexts
  simp only [Option.bind_some]
  by_cases h : e = 0
  · subst h
    simp only [beq_self_eq_true, if_true]
    rw [In_size_eq s 0 most k (by omega), Option.bind_some]
    unfold inSeq
    by_cases h1 : (inSize s 0 most).2.2 = 0
    · have := inSize_ok s 0 most h1
      rw [if_pos h1, h1, In_Texts_l0 (inSize s 0 most).1.toNat k [] _ 0 _ (by omega) (by omega) (by omega) (by simp; omega) (by omega), gath_all]
    · have hz := inSize_err s 0 most h1
      rw [if_neg h1, hz]
      obtain ⟨k, rfl⟩ : ∃ j, k = j + 1 := ⟨k - 1, by omega⟩
      simp [octets_In_Texts.l0]
  · have hb : (e == 0) = false := by rw [beq_eq_false_iff_ne]; exact h
    rw [hb, inSeq_stop _ s e most h]
    rfl
theorem ref_Ints_stop (k : Nat) (hk : 1 ≤ k) (n : Int) (acc : List Int) (i : Int) (s : ByteArray) (e : Int) (h : e ≠ 0) : primerref01_Ints.l0 k n acc i s e = some ([], s, e) := by
  obtain ⟨k, rfl⟩ : ∃ j, k = j + 1 := ⟨k - 1, by omega⟩
  simp only [primerref01_Ints.l0]
  by_cases hi : i < n
  · rw [if_pos hi, if_neg h]
  · rw [if_neg hi, if_neg h]
theorem ref_Texts_stop (k : Nat) (hk : 1 ≤ k) (n : Int) (acc : List ByteArray) (i : Int) (s : ByteArray) (e : Int) (h : e ≠ 0) : primerref01_Texts.l0 k n acc i s e = some ([], s, e) := by
  obtain ⟨k, rfl⟩ : ∃ j, k = j + 1 := ⟨k - 1, by omega⟩
  simp only [primerref01_Texts.l0]
  by_cases hi : i < n
  · rw [if_pos hi, if_neg h]
  · rw [if_neg hi, if_neg h]
theorem ref_Ints_l0 (r : Nat) : ∀ (k : Nat) (acc : List Int) (n i : Int) (s : ByteArray), s.size ≤ 140737488355328 → 0 ≤ i → i + r = n → n ≤ 65536 → acc.length + r ≤ 65536 → r + 27 < k →
    primerref01_Ints.l0 k n acc i s 0 = some (gath (fun s => inInt s 0) acc r s) := by
  induction r with
  | zero =>
    intro k acc n i s hs h0 h1 h2 h3 hk
    obtain ⟨k, rfl⟩ : ∃ j, k = j + 1 := ⟨k - 1, by omega⟩
    simp only [primerref01_Ints.l0]
    rw [if_neg (by omega), if_pos trivial, gath_zero]
  | succ r ih =>
    intro k acc n i s hs h0 h1 h2 h3 hk
    obtain ⟨k, rfl⟩ : ∃ j, k = j + 1 := ⟨k - 1, by omega⟩
    simp only [primerref01_Ints.l0]
    rw [if_pos (by omega), if_pos trivial, ref_Int_eq s 0 hs k (by omega), Option.bind_some, if_pos (by omega), w64 _ (by omega) (by omega)]
    have hsz := inInt_size s 0
    by_cases h : (inInt s 0).2.2 = 0
    · rw [gath_ok _ _ _ _ h, h]
      exact ih k _ n (i + 1) _ (by omega) (by omega) (by omega) h2 (by simp; omega) (by omega)
    · rw [gath_bad _ _ _ _ h, ref_Ints_stop k (by omega) _ _ _ _ _ h]
theorem ref_Texts_l0 (r : Nat) : ∀ (k : Nat) (acc : List ByteArray) (n i : Int) (s : ByteArray), s.size ≤ 140737488355328 → 0 ≤ i → i + r = n → n ≤ 65536 → acc.length + r ≤ 65536 → r + 33 < k →
    primerref01_Texts.l0 k n acc i s 0 = some (gath (fun s => inText s 0) acc r s) := by
  induction r with
  | zero =>
    intro k acc n i s hs h0 h1 h2 h3 hk
    obtain ⟨k, rfl⟩ : ∃ j, k = j + 1 := ⟨k - 1, by omega⟩
    simp only [primerref01_Texts.l0]
    rw [if_neg (by omega), if_pos trivial, gath_zero]
  | succ r ih =>
    intro k acc n i s hs h0 h1 h2 h3 hk
    obtain ⟨k, rfl⟩ : ∃ j, k = j + 1 := ⟨k - 1, by omega⟩
    simp only [primerref01_Texts.l0]
    rw [if_pos (by omega), if_pos trivial, ref_Text_eq s 0 hs k (by omega), Option.bind_some, if_pos (by omega), w64 _ (by omega) (by omega)]
    have hsz := (inText_size s 0).1
    by_cases h : (inText s 0).2.2 = 0
    · rw [gath_ok _ _ _ _ h, h]
      exact ih k _ n (i + 1) _ (by omega) (by omega) (by omega) h2 (by simp; omega) (by omega)
    · rw [gath_bad _ _ _ _ h, ref_Texts_stop k (by omega) _ _ _ _ _ h]
theorem ref_Ints_eq (s : ByteArray) (e most : Int) (hs : s.size ≤ 140737488355328) (k : Nat) (hk : 65570 ≤ k) : primerref01_Ints.f k s e most = some (inInts s e most) := by
  unfold primerref01_Ints.f inInts
  rw [ref_Size_eq s e most hs k (by omega), Option.bind_some]
  unfold inSeq
  have hz := inSize_size s e most
  by_cases h1 : (inSize s e most).2.2 = 0
  · have := inSize_ok s e most h1
    rw [if_pos h1, h1, ref_Ints_l0 (inSize s e most).1.toNat k [] _ 0 _ (by omega) (by omega) (by omega) (by omega) (by simp; omega) (by omega), gath_all]
  · rw [if_neg h1, ref_Ints_stop k (by omega) _ _ _ _ _ h1]
theorem ref_Texts_eq (s : ByteArray) (e most : Int) (hs : s.size ≤ 140737488355328) (k : Nat) (hk : 65575 ≤ k) : primerref01_Texts.f k s e most = some (inTexts s e most) := by
  unfold primerref01_Texts.f inTexts
  rw [ref_Size_eq s e most hs k (by omega), Option.bind_some]
  unfold inSeq
  have hz := inSize_size s e most
  by_cases h1 : (inSize s e most).2.2 = 0
  · have := inSize_ok s e most h1
    rw [if_pos h1, h1, ref_Texts_l0 (inSize s e most).1.toNat k [] _ 0 _ (by omega) (by omega) (by omega) (by omega) (by simp; omega) (by omega), gath_all]
  · rw [if_neg h1, ref_Texts_stop k (by omega) _ _ _ _ _ h1]
def inEnd (s : ByteArray) (e : Int) : Int := if e = 0 then (if s.size = 0 then 0 else 4) else e
theorem In_End_eq (s : ByteArray) (e : Int) : octets_In_End.f s e = some (inEnd s e, s, e) := by
  unfold octets_In_End.f octets_In_Err.f inEnd
  simp only [Option.bind_some]
  by_cases h : e = 0
  · rw [if_pos h, if_pos h]
    by_cases h2 : s.size = 0
    · rw [if_pos ((toList_nil_iff s).mpr h2), if_pos h2]
    · rw [if_neg (fun h => h2 ((toList_nil_iff s).mp h)), if_neg h2]
  · rw [if_neg h, if_neg h]
theorem ref_End_eq (s : ByteArray) (e : Int) : primerref01_End.f s e = some (inEnd s e, s, e) := by
  unfold primerref01_End.f inEnd
  by_cases h : e = 0
  · rw [if_pos h, if_pos h]
    by_cases h2 : s.size = 0
    · rw [if_pos ((toList_nil_iff s).mpr h2), if_pos h2, h]
    · rw [if_neg (fun h => h2 ((toList_nil_iff s).mp h)), if_neg h2]
  · rw [if_neg h, if_neg h]
theorem inSeq_size {α : Type} (f : ByteArray → α × ByteArray × Int) (hf : ∀ s, (f s).2.1.size ≤ s.size) (s : ByteArray) (e most : Int) : (inSeq f s e most).2.1.size ≤ s.size := by
  unfold inSeq
  have h1 := inSize_size s e most
  split
  · have := seqL_size f hf (inSize s e most).1.toNat (inSize s e most).2.1
    omega
  · exact h1
theorem inInts_size (s : ByteArray) (e most : Int) : (inInts s e most).2.1.size ≤ s.size := inSeq_size _ (fun s => inInt_size s 0) s e most
theorem inTexts_size (s : ByteArray) (e most : Int) : (inTexts s e most).2.1.size ≤ s.size := inSeq_size _ (fun s => (inText_size s 0).1) s e most
theorem inSeq_len {α : Type} (f : ByteArray → α × ByteArray × Int) (s : ByteArray) (e most : Int) : (inSeq f s e most).1.length ≤ 65536 := by
  unfold inSeq
  split
  · rename_i h
    have h1 := inSize_ok s e most h
    have := seqL_len f (inSize s e most).1.toNat (inSize s e most).2.1
    omega
  · exact Nat.zero_le _
theorem back2_l0 (l : List Int) (r : Nat) : ∀ (k : Nat) (i : Int), 0 ≤ i → i + r = l.length → l.length ≤ 65536 → r < k → primerlaw01_back2.l0 k l l i = some true := by
  induction r with
  | zero =>
    intro k i h0 h1 h2 hk
    obtain ⟨k, rfl⟩ : ∃ j, k = j + 1 := ⟨k - 1, by omega⟩
    simp only [primerlaw01_back2.l0]
    rw [if_neg (by omega)]
  | succ r ih =>
    intro k i h0 h1 h2 hk
    obtain ⟨k, rfl⟩ : ∃ j, k = j + 1 := ⟨k - 1, by omega⟩
    simp only [primerlaw01_back2.l0]
    rw [if_pos (by omega), if_pos h0, if_pos (by omega), if_pos trivial, w64 _ (by omega) (by omega)]
    exact ih k (i + 1) (by omega) (by omega) h2 (by omega)
theorem back2_same (l : List Int) (h : l.length ≤ 65536) : primerlaw01_back2.f 65537 l l = some true := by
  unfold primerlaw01_back2.f
  rw [if_pos rfl]
  exact back2_l0 l l.length 65537 0 (by omega) (by omega) h (by omega)
end Go.Proofs.Ytcflcmoblngfbaa.PK
