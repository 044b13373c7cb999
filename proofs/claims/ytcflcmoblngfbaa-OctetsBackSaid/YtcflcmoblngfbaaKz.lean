/- What is written is read again, in plain words: item by item. Condition: the item is neither bad nor too large to be played. -/
import Derived.Test.YtcflcmoblngfbaaKy
import Derived.Test.YtcflcmoblngfbaaKt
import Derived.Test.YtcflcmoblngfbaaPKx6
namespace Go.Proofs.Ytcflcmoblngfbaa.PK
open Go.RowKit Go.Proofs.YtcflcmoblngfbaaW.PrintWords Go.Proofs.YtcflcmoblngfbaaW.PrintLast Go.Proofs.YtcflcmoblngfbaaW.PrintMore
set_option linter.unusedVariables false
set_option linter.unusedSimpArgs false
theorem rest_range {s : ByteArray} {a r : List Int} (h : bytesOf s = a ++ r) : ∀ y ∈ r, 0 ≤ y ∧ y ≤ 255 := fun y hy => bytesOf_range s y (by rw [h]; exact List.mem_append_right _ hy)
theorem cut_rest {s : ByteArray} {a r : List Int} (h : bytesOf s = a ++ r) (n : Nat) (hn : n = a.length) : bytesOf (s.extract n s.size) = r := by
  rw [bytesOf_extract, ← bytesOf_len, List.take_length, h, hn, List.drop_left]
theorem rd_int (n : Int) (hn : -9007199254740992 ≤ n ∧ n ≤ 9007199254740992) (s : ByteArray) (r : List Int) (h : bytesOf s = putL n ++ r) : ∃ s', inInt s 0 = (n, s', 0) ∧ bytesOf s' = r := by
  have hg := get_put n hn s (strOfNums r) (by rw [h, strOf_bytes _ (rest_range h)])
  refine ⟨s.extract (putL n).length s.size, ?_, cut_rest h _ rfl⟩
  unfold inInt
  rw [if_pos rfl, hg, if_pos rfl, Int.toNat_natCast]
theorem rd_bool (b : Bool) (s : ByteArray) (r : List Int) (h : bytesOf s = [if b then 1 else 0] ++ r) : ∃ s', inBool s 0 = (b, s', 0) ∧ bytesOf s' = r := by
  refine ⟨s.extract 1 s.size, ?_, cut_rest h _ rfl⟩
  have hsz : s.size = r.length + 1 := by rw [← bytesOf_len, h]; simp
  have hb : bt s 0 = if b then 1 else 0 := by
    rw [bt_eq, h]; rfl
  unfold inBool
  rw [if_pos rfl, if_neg (by omega), hb]
  cases b <;> simp
theorem rd_size (n most : Int) (h0 : 0 ≤ n) (h1 : n ≤ most) (h2 : n ≤ 65536) (s : ByteArray) (r : List Int) (h : bytesOf s = putL n ++ r) : ∃ s', inSize s 0 most = (n, s', 0) ∧ bytesOf s' = r := by
  obtain ⟨s', hi, hr⟩ := rd_int n (by omega) s r h
  refine ⟨s', ?_, hr⟩
  have he : sizeErr n most = 0 := by unfold sizeErr; rw [if_neg (by omega), if_neg (by omega)]
  unfold inSize
  rw [hi]
  simp only [if_true, he]
theorem rd_text (t : ByteArray) (ht : t.size ≤ 65536) (s : ByteArray) (r : List Int) (h : bytesOf s = textL t ++ r) : ∃ s', inText s 0 = (t, s', 0) ∧ bytesOf s' = r := by
  have htl : textL t = putL t.size ++ bytesOf t := by unfold textL; rw [if_neg (by omega)]
  rw [htl, List.append_assoc] at h
  obtain ⟨s', hi, hr⟩ := rd_size t.size 65536 (by omega) (by omega) (by omega) s _ h
  refine ⟨s'.extract t.size s'.size, ?_, cut_rest hr _ (bytesOf_len t).symm⟩
  have hsz : s'.size = t.size + r.length := by rw [← bytesOf_len, hr, List.length_append, bytesOf_len]
  unfold inText
  rw [hi]
  simp only [if_true]
  rw [if_neg (by omega), Int.toNat_natCast]
  have : s'.extract 0 t.size = t := by
    apply bytesOf_inj
    rw [bytesOf_extract, hr, ← bytesOf_len t, List.take_left]
    rfl
  rw [this]
theorem rd_seq {α : Type} (f : ByteArray → α × ByteArray × Int) (enc : α → List Int) (xs : List α) (hf : ∀ x ∈ xs, ∀ s r, bytesOf s = enc x ++ r → ∃ s', f s = (x, s', 0) ∧ bytesOf s' = r) :
    ∀ s r, bytesOf s = xs.flatMap enc ++ r → ∃ s', seqL f xs.length s = (xs, s', 0) ∧ bytesOf s' = r := by
  induction xs with
  | nil => intro s r h; exact ⟨s, rfl, by simpa using h⟩
  | cons x xs ih =>
    intro s r h
    rw [List.flatMap_cons, List.append_assoc] at h
    obtain ⟨s1, h1, hr1⟩ := hf x List.mem_cons_self s _ h
    obtain ⟨s2, h2, hr2⟩ := ih (fun y hy => hf y (List.mem_cons_of_mem _ hy)) s1 r hr1
    refine ⟨s2, ?_, hr2⟩
    simp only [List.length_cons, seqL, h1, if_true, h2]
theorem rd_ints (xs : List Int) (hx : ∀ x ∈ xs, -9007199254740992 ≤ x ∧ x ≤ 9007199254740992) (hl : xs.length ≤ 200) (s : ByteArray) (r : List Int) (h : bytesOf s = intsL xs ++ r) : ∃ s', inInts s 0 200 = (xs, s', 0) ∧ bytesOf s' = r := by
  unfold intsL at h
  rw [List.append_assoc] at h
  obtain ⟨s1, h1, hr1⟩ := rd_size xs.length 200 (by omega) (by omega) (by omega) s _ h
  obtain ⟨s2, h2, hr2⟩ := rd_seq (fun s => inInt s 0) putL xs (fun x hm s r h => rd_int x (hx x hm) s r h) s1 r hr1
  refine ⟨s2, ?_, hr2⟩
  unfold inInts inSeq
  rw [h1]
  simp only [if_true, Int.toNat_natCast]
  exact h2
theorem rd_texts (xs : List ByteArray) (hx : ∀ x ∈ xs, x.size ≤ 65536) (hl : xs.length ≤ 200) (s : ByteArray) (r : List Int) (h : bytesOf s = textsL xs ++ r) : ∃ s', inTexts s 0 200 = (xs, s', 0) ∧ bytesOf s' = r := by
  unfold textsL at h
  rw [List.append_assoc] at h
  obtain ⟨s1, h1, hr1⟩ := rd_size xs.length 200 (by omega) (by omega) (by omega) s _ h
  obtain ⟨s2, h2, hr2⟩ := rd_seq (fun s => inText s 0) textL xs (fun x hm s r h => rd_text x (hx x hm) s r h) s1 r hr1
  refine ⟨s2, ?_, hr2⟩
  unfold inTexts inSeq
  rw [h1]
  simp only [if_true, Int.toNat_natCast]
  exact h2
/-- Is an item too much to be played? -/
def largeB (t : ByteArray) (ns : List Int) (ts : List ByteArray) : Bool := decide (2000 < t.size) || decide (200 < ns.length) || decide (200 < ts.length) || ts.any fun s => decide (500 < s.size)
theorem large_l0 (k0 n0 : Int) (b : Bool) (t : ByteArray) (ns : List Int) (ts : List ByteArray) (hl : ts.length ≤ 200) (r : Nat) : ∀ (k : Nat) (i : Nat), i + r = ts.length → r < k →
    primerlaw01_large.l0 k i k0 n0 b t ns ts = some ((ts.drop i).any fun s => decide (500 < s.size)) := by
  induction r with
  | zero =>
    intro k i h1 hk
    obtain ⟨k, rfl⟩ : ∃ j, k = j + 1 := ⟨k - 1, by omega⟩
    simp only [primerlaw01_large.l0]
    rw [if_neg (by omega), List.drop_of_length_le (by omega)]
    rfl
  | succ r ih =>
    intro k i h1 hk
    obtain ⟨k, rfl⟩ : ∃ j, k = j + 1 := ⟨k - 1, by omega⟩
    have hi : i < ts.length := by omega
    have hrd : rdOf ByteArray.empty ts (i : Int) = ts[i] := by
      unfold rdOf
      rw [Int.toNat_natCast, List.getD_eq_getElem?_getD, List.getElem?_eq_getElem hi]
      rfl
    simp only [primerlaw01_large.l0]
    rw [if_pos (by omega), if_pos (by omega), hrd, w64 _ (by omega) (by omega), List.drop_eq_getElem_cons hi, List.any_cons]
    by_cases h : 500 < ts[i].size
    · rw [if_pos (by omega)]
      simp [h]
    · rw [if_neg (by omega)]
      have := ih k (i + 1) (by omega) (by omega)
      rw [show ((i : Int) + 1) = ((i + 1 : Nat) : Int) from rfl, this]
      simp [h]
theorem large_eq (k0 n0 : Int) (b : Bool) (t : ByteArray) (ns : List Int) (ts : List ByteArray) (k : Nat) (hk : 210 ≤ k) : primerlaw01_large.f k k0 n0 b t ns ts = some (largeB t ns ts) := by
  obtain ⟨k, rfl⟩ : ∃ j, k = j + 1 := ⟨k - 1, by omega⟩
  unfold primerlaw01_large.f largeB
  by_cases h1 : 2000 < t.size
  · rw [if_pos (by omega)]
    simp [primerlaw01_large.j0, h1]
  · rw [if_neg (by omega)]
    by_cases h2 : 200 < ns.length
    · rw [if_pos (by omega)]
      simp [primerlaw01_large.j0, h2]
    · rw [if_neg (by omega)]
      by_cases h3 : 200 < ts.length
      · have : decide ((ts.length : Int) > 200) = true := by simp; omega
        rw [this]
        simp [primerlaw01_large.j0, h3]
      · have : decide ((ts.length : Int) > 200) = false := by simp; omega
        rw [this]
        have hl := large_l0 k0 n0 b t ns ts (by omega) ts.length k 0 (by omega) (by omega)
        simp only [primerlaw01_large.j0, Bool.false_eq_true, if_false]
        rw [show ((0 : Nat) : Int) = 0 from rfl] at hl
        rw [hl]
        simp [h1, h2, h3]
theorem back_l0 (l : List Int) (hl : l.length ≤ 200) (s : ByteArray) (e k0 n0 : Int) (b : Bool) (t : ByteArray) (ts : List ByteArray) (r : Nat) : ∀ (k : Nat) (i : Int), 0 ≤ i → i + r = l.length → 2 * r + 1 < k → primerlaw01_back.l0 k l i s e k0 n0 b t l ts = some (true, s, e) := by
  induction r with
  | zero =>
    intro k i h0 h1 hk
    obtain ⟨k, rfl⟩ : ∃ j, k = j + 1 + 1 := ⟨k - 2, by omega⟩
    simp only [primerlaw01_back.l0]
    rw [if_neg (by omega)]
    simp [primerlaw01_back.j1]
  | succ r ih =>
    intro k i h0 h1 hk
    obtain ⟨k, rfl⟩ : ∃ j, k = j + 1 + 1 := ⟨k - 2, by omega⟩
    have hd : decide (i < (l.length : Int)) = true := by simp; omega
    simp only [primerlaw01_back.l0]
    rw [if_pos (by omega), hd]
    simp only [primerlaw01_back.j1, if_true]
    rw [if_pos h0, if_pos (by omega), if_pos (by omega), w64 _ (by omega) (by omega)]
    exact ih k (i + 1) (by omega) (by omega) (by omega)
theorem back_l1 (l : List ByteArray) (hl : l.length ≤ 200) (s : ByteArray) (e k0 n0 : Int) (b : Bool) (t : ByteArray) (ns : List Int) (r : Nat) : ∀ (k : Nat) (i : Int), 0 ≤ i → i + r = l.length → 2 * r + 1 < k → primerlaw01_back.l1 k l i s e k0 n0 b t ns l = some (true, s, e) := by
  induction r with
  | zero =>
    intro k i h0 h1 hk
    obtain ⟨k, rfl⟩ : ∃ j, k = j + 1 + 1 := ⟨k - 2, by omega⟩
    simp only [primerlaw01_back.l1]
    rw [if_neg (by omega)]
    simp [primerlaw01_back.j3]
  | succ r ih =>
    intro k i h0 h1 hk
    obtain ⟨k, rfl⟩ : ∃ j, k = j + 1 + 1 := ⟨k - 2, by omega⟩
    have hd : decide (i < (l.length : Int)) = true := by simp; omega
    simp only [primerlaw01_back.l1]
    rw [if_pos (by omega), hd]
    simp only [primerlaw01_back.j3, if_true]
    rw [if_pos h0, if_pos (by omega), if_pos (by omega), w64 _ (by omega) (by omega)]
    exact ih k (i + 1) (by omega) (by omega) (by omega)
theorem back_item (k n : Int) (b : Bool) (t : ByteArray) (ns : List Int) (ts : List ByteArray) (hbad : itemBad k n b t ns ts = false) (hlarge : largeB t ns ts = false) (s : ByteArray) (r : List Int) (h : bytesOf s = itemL k n b t ns ts ++ r) :
    ∃ s', primerlaw01_back.f 70000 s 0 k n b t ns ts = some (true, s', 0) ∧ bytesOf s' = r := by
  unfold largeB at hlarge
  simp only [Bool.or_eq_false_iff, decide_eq_false_iff_not, Nat.not_lt, List.any_eq_false, decide_eq_true_eq] at hlarge
  obtain ⟨⟨⟨h1, h2⟩, h3⟩, h4⟩ := hlarge
  unfold primerlaw01_back.f
  rw [kind_f, Option.bind_some]
  unfold itemL at h
  unfold itemBad at hbad
  by_cases q0 : kindN k = 0
  · rw [if_pos q0] at h hbad ⊢
    have hf : -9007199254740992 ≤ n ∧ n ≤ 9007199254740992 := by unfold fitsN at hbad; simpa using hbad
    obtain ⟨s', e, hr⟩ := rd_int n hf s r h
    refine ⟨s', ?_, hr⟩
    rw [In_Int_eq, e]
    simp
  rw [if_neg q0] at h hbad ⊢
  by_cases q1 : kindN k = 1
  · rw [if_pos q1] at h hbad ⊢
    obtain ⟨s', e, hr⟩ := rd_bool b s r h
    refine ⟨s', ?_, hr⟩
    rw [In_Bool_eq, e]
    simp
  rw [if_neg q1] at h hbad ⊢
  by_cases q2 : kindN k = 2
  · rw [if_pos q2] at h hbad ⊢
    obtain ⟨s', e, hr⟩ := rd_text t (by omega) s r h
    refine ⟨s', ?_, hr⟩
    rw [In_Text_eq s 0 70000 (by omega), e]
    simp
  rw [if_neg q2] at h hbad ⊢
  by_cases q3 : kindN k = 3
  · rw [if_pos q3] at h hbad ⊢
    have hf : ∀ x ∈ ns, -9007199254740992 ≤ x ∧ x ≤ 9007199254740992 := by
      unfold badInts at hbad
      simp only [Bool.or_eq_false_iff, List.any_eq_false] at hbad
      intro x hx
      have := hbad.2 x hx
      unfold fitsN at this
      simpa using this
    obtain ⟨s', e, hr⟩ := rd_ints ns hf (by omega) s r h
    refine ⟨s', ?_, hr⟩
    rw [In_Ints_eq s 0 200 70000 (by omega), e, Option.bind_some]
    exact back_l0 ns (by omega) s' 0 k n b t ts ns.length 70000 0 (by omega) (by omega) (by omega)
  rw [if_neg q3] at h hbad ⊢
  obtain ⟨s', e, hr⟩ := rd_texts ts (fun x hx => by have := h4 x hx; omega) (by omega) s r h
  refine ⟨s', ?_, hr⟩
  rw [In_Texts_eq s 0 200 70000 (by omega), e, Option.bind_some]
  exact back_l1 ts (by omega) s' 0 k n b t ns ts.length 70000 0 (by omega) (by omega) (by omega)
end Go.Proofs.Ytcflcmoblngfbaa.PK
