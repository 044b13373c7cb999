/- What Put and Get tell, in plain numbers: Get undoes Put, and Get takes nothing but what Put makes; the document's Put and Get tell the same. Condition: none.
The document's Put and Get tell what the program's tell. Condition: none.
The document's Get tells what the program's tells. Condition: none.
Reading, in plain words: what the program's In and the document's In tell is the same function. Condition: the bytes are no more than 2^47. -/
import Derived.Test.YtnajmemcdipknaaHa
import Derived.Test.YtnajmemcdipknaaHc
import Derived.Test.YtnajmemcdipknaaHd
import Derived.Test.YtnajmemcdipknaaHe
namespace Go.Proofs.Ytnajmemcdipknaa.PK
open Go.RowKit Go.Proofs.YtnajmemcdipknaaW.PrintWords Go.Proofs.YtnajmemcdipknaaW.PrintLast Go.Proofs.YtnajmemcdipknaaW.PrintMore
set_option linter.unusedVariables false
set_option linter.unusedSimpArgs false
set_option maxRecDepth 100000

theorem ediv2 (m a b : Int) (ha : 0 ≤ a) : m / (a * b) = m / a / b := by rw [Int.ediv_ediv, if_neg (by omega)]; omega
theorem p256_pos (k : Nat) : (0 : Int) < 256 ^ k := Int.pow_pos (by omega)
theorem p256_succ (k : Nat) : (256 : Int) ^ (k + 1) = 256 * 256 ^ k := by rw [Int.pow_succ, Int.mul_comm]
/-- The digits of m are d: no more, no less. -/
def Digs (d : Nat) (m : Int) : Prop := 0 ≤ m ∧ m < 256 ^ d ∧ (∀ e, d = e + 1 → 256 ^ e ≤ m)
theorem digs_zero (m : Int) : Digs 0 m ↔ m = 0 := by
  unfold Digs; simp; omega
theorem digs_succ (d : Nat) (m : Int) : Digs (d + 1) m ↔ 0 < m ∧ Digs d (m / 256) := by
  have hp := p256_pos d
  constructor
  · rintro ⟨h0, h1, h2⟩
    have h2 := h2 d rfl
    rw [p256_succ] at h1
    refine ⟨by omega, by omega, by omega, fun e he => ?_⟩
    subst he
    rw [p256_succ] at h2
    omega
  · rintro ⟨h0, h1, h2, h3⟩
    refine ⟨by omega, by rw [p256_succ]; omega, fun e he => ?_⟩
    obtain rfl : d = e := by omega
    cases d with
    | zero => simp; omega
    | succ e => have := h3 e rfl; rw [p256_succ]; omega
theorem digs_nb (m : Int) (h0 : 0 ≤ m) (h1 : m ≤ 72057594037927935) : Digs (nb m) m := by
  unfold nb
  have e : ∀ d : Nat, d ≤ 7 → (256 : Int) ^ d < 256 ^ d + 1 := fun d _ => by omega
  unfold Digs
  repeat' split
  · refine ⟨h0, by omega, fun e he => by omega⟩
  · refine ⟨h0, by omega, fun e he => ?_⟩; obtain rfl : e = 0 := by omega
    simp; omega
  · refine ⟨h0, by omega, fun e he => ?_⟩; obtain rfl : e = 1 := by omega
    omega
  · refine ⟨h0, by omega, fun e he => ?_⟩; obtain rfl : e = 2 := by omega
    omega
  · refine ⟨h0, by omega, fun e he => ?_⟩; obtain rfl : e = 3 := by omega
    omega
  · refine ⟨h0, by omega, fun e he => ?_⟩; obtain rfl : e = 4 := by omega
    omega
  · refine ⟨h0, by omega, fun e he => ?_⟩; obtain rfl : e = 5 := by omega
    omega
  · refine ⟨h0, by omega, fun e he => ?_⟩; obtain rfl : e = 6 := by omega
    omega
theorem digs_inj (d e : Nat) (m : Int) (h : Digs d m) (k : Digs e m) : d = e := by
  induction d generalizing e m with
  | zero =>
    rw [digs_zero] at h
    cases e with
    | zero => rfl
    | succ e => rw [digs_succ] at k; omega
  | succ d ih =>
    rw [digs_succ] at h
    cases e with
    | zero => rw [digs_zero] at k; omega
    | succ e => rw [digs_succ] at k; rw [ih e _ h.2 k.2]
theorem beL_snoc (d : Nat) (m : Int) : beL (d + 1) m = beL d (m / 256) ++ [m % 256] := by
  induction d with
  | zero => simp [beL]
  | succ d ih =>
    have e : m / 256 ^ (d + 1) = m / 256 / 256 ^ d := by
      rw [p256_succ, ediv2 _ _ _ (by omega)]
    show (m / 256 ^ (d + 1)) % 256 :: beL (d + 1) m = ((m / 256) / 256 ^ d) % 256 :: beL d (m / 256) ++ [m % 256]
    rw [e, ih]
    rfl
theorem beL_get (k : Nat) (m : Int) (j : Nat) (h : j < k) : (beL k m).getD j 0 = (m / 256 ^ (k - 1 - j)) % 256 := by
  induction k generalizing j with
  | zero => omega
  | succ k ih =>
    cases j with
    | zero => simp [beL]
    | succ j =>
      show (beL k m).getD j 0 = _
      rw [ih j (by omega)]
      congr 3
      omega
/-- The value of the bytes that a number's digits are. -/
theorem valB_of (s : ByteArray) (K : Nat) (m : Int) (h0 : 0 ≤ m) (h1 : m < 256 ^ K) (hb : ∀ j : Nat, j < K → bt s ((j : Int) + 1) = (m / 256 ^ (K - 1 - j)) % 256) (i : Nat) (hi : i ≤ K) : valB s i = m / 256 ^ (K - i) := by
  induction i with
  | zero =>
    simp only [valB, Nat.sub_zero]
    rw [Int.ediv_eq_zero_of_lt h0 h1]
  | succ i ih =>
    simp only [valB]
    rw [ih (by omega), hb i (by omega)]
    have e1 : K - i = (K - (i + 1)) + 1 := by omega
    have e2 : K - 1 - i = K - (i + 1) := by omega
    rw [e1, e2, p256_succ]
    have : m / (256 * 256 ^ (K - (i + 1))) = m / 256 ^ (K - (i + 1)) / 256 := by
      rw [Int.mul_comm, ediv2 _ _ _ (by have := p256_pos (K - (i + 1)); omega)]
    rw [this]
    omega
theorem valB_digits (s : ByteArray) (K : Nat) (j : Nat) (h : j < K) : bt s ((j : Int) + 1) = (valB s K / 256 ^ (K - 1 - j)) % 256 := by
  induction K with
  | zero => omega
  | succ K ih =>
    simp only [valB]
    have hb := bt_range s ((K : Int) + 1)
    rcases Nat.lt_or_ge j K with hj | hj
    · have e : K + 1 - 1 - j = (K - 1 - j) + 1 := by omega
      rw [e, p256_succ, ediv2 _ _ _ (by omega)]
      have : (valB s K * 256 + bt s ((K : Int) + 1)) / 256 = valB s K := by omega
      rw [this]
      exact ih hj
    · obtain rfl : j = K := by omega
      have e : j + 1 - 1 - j = 0 := by omega
      rw [e]
      simp
      omega
theorem head_get (l : List Int) (t : ByteArray) (s : ByteArray) (hs : bytesOf s = l ++ bytesOf t) (j : Nat) (hj : j < l.length) : bt s (j : Int) = l.getD j 0 := by
  rw [bt_nat, hs, List.getD_eq_getElem?_getD, List.getElem?_append_left hj, List.getD_eq_getElem?_getD]
theorem nat_pow (a : Nat) : (256 : Int) ^ a = ((256 ^ a : Nat) : Int) := by simp
theorem putL_form (n : Int) (h : -9007199254740992 ≤ n ∧ n ≤ 9007199254740992) : ∃ (sg m : Int) (K : Nat), putL n = (sg + K) :: beL K m ∧ Digs K m ∧ K ≤ 7 ∧ 0 ≤ m ∧ m ≤ 9007199254740992 ∧ ((sg = 0 ∧ n = m) ∨ (sg = 128 ∧ n = -m ∧ 0 < m)) := by
  unfold putL
  rw [if_neg (by omega)]
  split
  · exact ⟨128, -n, nb (-n), rfl, digs_nb _ (by omega) (by omega), nb_le _, by omega, by omega, .inr ⟨rfl, by omega, by omega⟩⟩
  · exact ⟨0, n, nb n, by simp, digs_nb _ (by omega) (by omega), nb_le _, by omega, by omega, .inl ⟨rfl, rfl⟩⟩
/-- Get, behind what Put made. -/
theorem get_put (n : Int) (h : -9007199254740992 ≤ n ∧ n ≤ 9007199254740992) (s t : ByteArray) (hs : bytesOf s = putL n ++ bytesOf t) : getA s = (n, ((putL n).length : Int), 0) := by
  obtain ⟨sg, m, K, hp, hd, hK, hm0, hm1, hc⟩ := putL_form n h
  have hl : (putL n).length = K + 1 := by rw [hp]; simp [beL_length]
  have hsz : s.size = K + 1 + t.size := by
    have := congrArg List.length hs
    rw [List.length_append, bytesOf_len, bytesOf_len, hl] at this
    exact this
  have b0 : bt s 0 = sg + K := by
    have := head_get (putL n) t s hs 0 (by omega)
    rw [hp] at this
    exact this
  have bj : ∀ j : Nat, j < K → bt s ((j : Int) + 1) = (m / 256 ^ (K - 1 - j)) % 256 := by
    intro j hj
    have := head_get (putL n) t s hs (j + 1) (by omega)
    rw [hp] at this
    have e : ((j + 1 : Nat) : Int) = (j : Int) + 1 := by omega
    rw [e] at this
    rw [this]
    exact beL_get K m j hj
  have hv : valB s K = m := by
    have := valB_of s K m hm0 hd.2.1 bj K (Nat.le_refl _)
    rw [Nat.sub_self] at this
    simpa using this
  have hk : bt s 0 % 128 = K := by rw [b0]; rcases hc with ⟨rfl, _⟩ | ⟨rfl, _⟩ <;> omega
  have hk' : (bt s 0 % 128).toNat = K := by omega
  have h1 : K > 0 → bt s 1 ≠ 0 := by
    intro hk0
    have := bj 0 hk0
    simp only [Int.natCast_zero, Int.zero_add, Nat.sub_zero] at this
    have hlo := hd.2.2 (K - 1) (by omega)
    have hhi := hd.2.1
    have e : K = (K - 1) + 1 := by omega
    rw [e, p256_succ] at hhi
    have hp := p256_pos (K - 1)
    rw [this]
    have a1 : 1 ≤ m / 256 ^ (K - 1) := Int.le_ediv_of_mul_le hp (by omega)
    have a2 : m / 256 ^ (K - 1) < 256 := Int.ediv_lt_of_lt_mul hp (by omega)
    omega
  have hz : ¬ s.size = 0 := by omega
  have c1 : ¬ (bt s 0 % 128 > 7 ∨ 128 ≤ bt s 0 ∧ bt s 0 % 128 = 0) := by
    rw [hk]
    rintro (h | ⟨h, h'⟩)
    · omega
    · rcases hc with ⟨rfl, _⟩ | ⟨rfl, _, hpos⟩
      · omega
      · have : K = 0 := by omega
        subst this
        have := (digs_zero m).mp hd
        omega
  have c2 : ¬ ((s.size : Int) ≤ bt s 0 % 128) := by omega
  have c3 : ¬ (valB s (bt s 0 % 128).toNat > 9007199254740992 ∨ bt s 0 % 128 > 0 ∧ bt s 1 = 0) := by
    rw [hk', hv]
    rintro (h | ⟨h, h'⟩)
    · omega
    · exact h1 (by omega) h'
  unfold getA
  rw [if_neg hz, if_neg c1, if_neg c2, if_neg c3, hk', hv, hk, hl]
  rcases hc with ⟨rfl, rfl⟩ | ⟨rfl, rfl, hpos⟩
  · rw [if_neg (by omega)]; rfl
  · rw [if_pos (by omega)]; rfl
/-- Where Get tells a number, the bytes are those that Put makes of it. -/
theorem put_get (s : ByteArray) (n k : Int) (h : getA s = (n, k, 0)) : putL n = (bytesOf s).take k.toNat ∧ 1 ≤ k ∧ k ≤ s.size ∧ k ≤ 8 ∧ -9007199254740992 ≤ n ∧ n ≤ 9007199254740992 := by
  have hb0 := bt_range s 0
  unfold getA at h
  split at h
  · simp at h
  · rename_i hz
    split at h
    · simp at h
    · rename_i c1
      split at h
      · simp at h
      · rename_i c2
        split at h
        · simp at h
        · rename_i c3
          simp only [Prod.mk.injEq, and_true] at h
          obtain ⟨hn, rfl⟩ := h
          obtain ⟨K, hK⟩ : ∃ K : Nat, (K : Int) = bt s 0 % 128 := ⟨(bt s 0 % 128).toNat, by omega⟩
          rw [← hK] at c1 c2 c3 hn ⊢
          rw [Int.toNat_natCast] at c3 hn
          have hv := valB_range s K
          have hd : Digs K (valB s K) := by
            refine ⟨hv.1, hv.2, fun e he => ?_⟩
            subst he
            have h1 : bt s 1 ≠ 0 := fun h => c3 (.inr ⟨by omega, h⟩)
            have hr1 := bt_range s 1
            have := valB_digits s (e + 1) 0 (by omega)
            simp only [Int.natCast_zero, Int.zero_add] at this
            have e2 : e + 1 - 1 - 0 = e := by omega
            rw [e2] at this
            have hp := p256_pos e
            rcases (show valB s (e + 1) < 256 ^ e ∨ 256 ^ e ≤ valB s (e + 1) from by omega) with hlt | hge
            · rw [Int.ediv_eq_zero_of_lt hv.1 hlt] at this
              omega
            · exact hge
          have hle : valB s K ≤ 9007199254740992 := by
            rcases (show 9007199254740992 < valB s K ∨ valB s K ≤ 9007199254740992 from by omega) with h | h
            · exact absurd (.inl h) c3
            · exact h
          have hnb : nb (valB s K) = K := digs_inj _ _ _ (digs_nb _ hv.1 (by omega)) hd
          have htk : ((K : Int) + 1).toNat = K + 1 := by omega
          have tail : beL K (valB s K) = (List.range K).map fun (j : Nat) => bt s ((j : Int) + 1) := by
            apply List.ext_getElem
            · simp [beL_length]
            · intro i h1 h2
              have hi : i < K := by rw [beL_length] at h1; exact h1
              have := beL_get K (valB s K) i hi
              rw [List.getD_eq_getElem?_getD, List.getElem?_eq_getElem h1] at this
              simp only [Option.getD_some] at this
              rw [this, ← valB_digits s K i hi]
              simp
          have whole : (bytesOf s).take (K + 1) = bt s 0 :: beL K (valB s K) := by
            rw [bytes_take s (K + 1) (by omega), tail, List.range_succ_eq_map]
            simp [Function.comp]
          rw [htk, whole]
          refine ⟨?_, by omega, by omega, by omega, ?_⟩
          · by_cases hb : 128 ≤ bt s 0
            · rw [if_pos hb] at hn
              have hpos : 0 < valB s K := by
                rcases Nat.eq_zero_or_pos K with hk0 | hk0
                · exact absurd (.inr ⟨hb, by omega⟩) c1
                · have := hd.2.2 (K - 1) (by omega)
                  have := p256_pos (K - 1)
                  omega
              subst hn
              unfold putL
              rw [if_neg (by omega), if_pos (by omega), Int.neg_neg, hnb]
              congr 1
              omega
            · rw [if_neg hb] at hn
              subst hn
              unfold putL
              rw [if_neg (by omega), if_neg (by omega), hnb]
              congr 1
              omega
          · split at hn <;> omega
end Go.Proofs.Ytnajmemcdipknaa.PK
namespace Go.Proofs.Ytnajmemcdipknaa.PK
open Go.RowKit Go.Proofs.YtnajmemcdipknaaW.PrintWords Go.Proofs.YtnajmemcdipknaaW.PrintLast Go.Proofs.YtnajmemcdipknaaW.PrintMore
set_option linter.unusedVariables false
set_option linter.unusedSimpArgs false
set_option maxRecDepth 100000
theorem strOf_append (a b : List Int) : strOfNums (a ++ b) = strOfNums a ++ strOfNums b := by
  apply ByteArray.ext
  unfold strOfNums
  rw [ByteArray.data_append]
  simp
theorem app_assoc (a b c : ByteArray) : a ++ b ++ c = a ++ (b ++ c) := by
  apply ByteArray.ext
  simp [ByteArray.data_append]
theorem app_empty (a : ByteArray) : a ++ (⟨#[]⟩ : ByteArray) = a := by
  apply ByteArray.ext
  simp [ByteArray.data_append]
theorem w64 (x : Int) (h0 : -9223372036854775808 ≤ x) (h1 : x ≤ 9223372036854775807) : wrap64 x = x := by unfold wrap64; omega
theorem refPut_l0 (x3 : Int) (h3 : 0 ≤ x3 ∧ x3 ≤ 128) (d : Nat) : ∀ (m : Int) (s : ByteArray) (k : Nat), Digs d m → d + s.size ≤ 7 → m ≤ 9007199254740992 → d < k →
    primerref01_Put.l0 k m x3 s = some (strOfNums ((x3 + ((d + s.size : Nat) : Int)) :: beL d m) ++ s) := by
  induction d with
  | zero =>
    intro m s k hd hs hm hk
    obtain ⟨k, rfl⟩ : ∃ j, k = j + 1 := ⟨k - 1, by omega⟩
    have hm0 := (digs_zero m).mp hd
    subst hm0
    simp only [primerref01_Put.l0]
    rw [if_neg (by omega), Option.bind_some, strOfNums_size, if_pos (by simp; omega), w64 _ (by omega) (by omega), Int.emod_eq_of_lt (by omega) (by omega)]
    simp [beL]
  | succ d ih =>
    intro m s k hd hs hm hk
    obtain ⟨k, rfl⟩ : ∃ j, k = j + 1 := ⟨k - 1, by omega⟩
    have hd' := (digs_succ d m).mp hd
    simp only [primerref01_Put.l0]
    have e1 : Int.tmod m 256 = m % 256 := Int.tmod_eq_emod_of_nonneg (by omega)
    have e2 : Int.tdiv m 256 = m / 256 := Int.tdiv_eq_ediv_of_nonneg (by omega)
    have e3 : m % 256 % 256 = m % 256 := by omega
    rw [if_pos hd'.1, Option.bind_some, strOfNums_size, if_pos (by simp; omega), e1, e2, e3, w64 _ (by omega) (by omega)]
    rw [ih (m / 256) (strOfNums [m % 256] ++ s) k hd'.2 (by rw [size_app, strOfNums_size]; simp; omega) (by omega) (by omega)]
    rw [beL_snoc, ← List.cons_append, strOf_append, app_assoc]
    have e4 : (d + (strOfNums [m % 256] ++ s).size : Nat) = d + 1 + s.size := by rw [size_app, strOfNums_size]; simp; omega
    rw [e4]
theorem refPut_eq (n : Int) (hw : -9223372036854775808 ≤ n ∧ n ≤ 9223372036854775807) (k : Nat) (hk : 11 ≤ k) : primerref01_Put.f k n = some (strOfNums (putL n)) := by
  unfold primerref01_Put.f
  obtain ⟨k, rfl⟩ : ∃ j, k = j + 1 + 1 := ⟨k - 2, by omega⟩
  unfold putL
  by_cases h1 : n < -9007199254740992
  · rw [if_pos h1, if_pos (.inl h1)]
    simp only [primerref01_Put.j0, if_true]
    rfl
  · rw [if_neg h1]
    by_cases h2 : 9007199254740992 < n
    · rw [if_pos (.inr h2)]
      have : decide (n > 9007199254740992) = true := by simp; omega
      rw [this]
      simp only [primerref01_Put.j0, if_true]
      rfl
    · rw [if_neg (by omega)]
      have : decide (n > 9007199254740992) = false := by simp; omega
      rw [this]
      simp only [primerref01_Put.j0, Bool.false_eq_true, if_false, primerref01_Put.j1]
      by_cases h3 : n < 0
      · have h7 := nb_le (-n)
        rw [if_pos h3, if_pos h3, w64 _ (by omega) (by omega), refPut_l0 128 (by omega) (nb (-n)) (-n) _ k (digs_nb _ (by omega) (by omega)) (by show nb (-n) + 0 ≤ 7; omega) (by omega) (by omega), app_empty]
        rfl
      · have h7 := nb_le n
        rw [if_neg h3, if_neg h3, refPut_l0 0 (by omega) (nb n) n _ k (digs_nb _ (by omega) (by omega)) (by show nb n + 0 ≤ 7; omega) (by omega) (by omega), app_empty, Int.zero_add]
        rfl
end Go.Proofs.Ytnajmemcdipknaa.PK
namespace Go.Proofs.Ytnajmemcdipknaa.PK
open Go.RowKit Go.Proofs.YtnajmemcdipknaaW.PrintWords Go.Proofs.YtnajmemcdipknaaW.PrintLast Go.Proofs.YtnajmemcdipknaaW.PrintMore
set_option linter.unusedVariables false
set_option linter.unusedSimpArgs false
set_option maxRecDepth 100000
theorem refGet_l0 (s : ByteArray) (K : Nat) (hK : K ≤ 7) (hs : K + 1 ≤ s.size) (j : Nat) : ∀ (i k : Nat), i + j = K → j + 13 ≤ k →
    ∃ k', 12 ≤ k' ∧ primerref01_Get.l0 k s K (valB s i) ((i : Int) + 1) = primerref01_Get.l0 k' s K (valB s K) ((K : Int) + 1) := by
  induction j with
  | zero =>
    intro i k hi hk
    obtain rfl : i = K := by omega
    exact ⟨k, by omega, rfl⟩
  | succ j ih =>
    intro i k hi hk
    obtain ⟨k, rfl⟩ : ∃ j, k = j + 1 := ⟨k - 1, by omega⟩
    obtain ⟨k', hk', e⟩ := ih (i + 1) k (by omega) (by omega)
    refine ⟨k', hk', ?_⟩
    rw [← e]
    have hv := valB_lt s i (by omega)
    have hv2 := valB_lt s (i + 1) (by omega)
    have hb := bt_range s ((i : Int) + 1)
    have hsum : valB s (i + 1) = valB s i * 256 + bt s ((i : Int) + 1) := rfl
    simp only [primerref01_Get.l0]
    rw [if_pos (by omega), if_pos (by omega), if_pos (by omega), w64 (256 * valB s i) (by omega) (by omega), w64 (bt s ((i : Int) + 1)) (by omega) (by omega), w64 _ (by omega) (by omega), w64 _ (by omega) (by omega)]
    have e1 : 256 * valB s i + bt s ((i : Int) + 1) = valB s (i + 1) := by rw [hsum]; omega
    rw [e1]
    rfl
theorem bytes_strOf_eq (l : List Int) (h : ∀ x ∈ l, 0 ≤ x ∧ x ≤ 255) (s : ByteArray) (k : Nat) : (strOfNums l).toList = (s.extract 0 k).toList ↔ l = (bytesOf s).take k := by
  rw [toList_iff]
  constructor
  · intro e
    have := congrArg bytesOf e
    rw [strOf_bytes l h, bytesOf_extract] at this
    simpa using this
  · intro e
    apply bytesOf_inj
    rw [strOf_bytes l h, bytesOf_extract, e]
    simp
/-- Get in a form of its own: a number is told just where Put gives the bytes back. -/
theorem getA_iff (s : ByteArray) (K : Nat) (hK : (K : Int) = bt s 0 % 128) (hz : s.size ≠ 0) (c1 : ¬ (bt s 0 % 128 > 7 ∨ 128 ≤ bt s 0 ∧ bt s 0 % 128 = 0)) (hs : K + 1 ≤ s.size) (n : Int) (hn : n = if 128 ≤ bt s 0 then - valB s K else valB s K) :
    getA s = if putL n = (bytesOf s).take (K + 1) then (n, (K : Int) + 1, 0) else (0, 0, 2) := by
  have hb0 := bt_range s 0
  have hg : getA s = if valB s K > 9007199254740992 ∨ (bt s 0 % 128 > 0 ∧ bt s 1 = 0) then (0, 0, 2) else (n, (K : Int) + 1, 0) := by
    have e : (bt s 0 % 128).toNat = K := by omega
    unfold getA
    rw [if_neg hz, if_neg c1, if_neg (by omega), e, ← hn, ← hK]
  by_cases hc : valB s K > 9007199254740992 ∨ (bt s 0 % 128 > 0 ∧ bt s 1 = 0)
  · rw [if_pos hc] at hg
    rw [hg, if_neg]
    intro hp
    have hv := valB_range s K
    have hl : (putL n).length = K + 1 := by rw [hp, List.length_take, bytesOf_len]; omega
    have hfit : -9007199254740992 ≤ n ∧ n ≤ 9007199254740992 := by
      refine Decidable.byContradiction fun h => ?_
      unfold putL at hl
      rw [if_pos (by omega)] at hl
      simp at hl
    have hg2 := get_put n hfit s (s.extract (K + 1) s.size) (by
      rw [hp, bytesOf_extract, ← bytesOf_len, List.take_length, List.take_append_drop])
    rw [hg] at hg2
    simp at hg2
  · rw [if_neg hc] at hg
    have hp := put_get s n ((K : Int) + 1) hg
    have e : ((K : Int) + 1).toNat = K + 1 := by omega
    rw [e] at hp
    rw [hg, if_pos hp.1]
theorem refGet_eq (s : ByteArray) (hsz : s.size ≤ 9223372036854775807) (k : Nat) (hk : 25 ≤ k) : primerref01_Get.f k s = some (getA s) := by
  obtain ⟨k, rfl⟩ : ∃ j, k = j + 1 := ⟨k - 1, by omega⟩
  have hb0 := bt_range s 0
  have e0 : Int.tmod (wrap64 (bt s 0)) 128 = bt s 0 % 128 := by
    rw [w64 _ (by omega) (by omega)]; exact Int.tmod_eq_emod_of_nonneg (by omega)
  unfold primerref01_Get.f
  rw [e0]
  by_cases hz : s.size = 0
  · rw [if_pos ((toList_nil_iff s).mpr hz)]
    unfold getA
    rw [if_pos hz]
  · rw [if_neg (fun h => hz ((toList_nil_iff s).mp h)), if_pos (by omega)]
    by_cases h7 : bt s 0 % 128 > 7
    · rw [if_pos h7]
      simp only [primerref01_Get.j0, if_true]
      unfold getA
      rw [if_neg hz, if_pos (.inl h7)]
    · rw [if_neg h7]
      by_cases h128 : bt s 0 = 128
      · have : (bt s 0 == 128) = true := by rw [beq_iff_eq]; exact h128
        rw [this]
        simp only [primerref01_Get.j0, if_true]
        unfold getA
        rw [if_neg hz, if_pos (.inr (by omega))]
      · have : (bt s 0 == 128) = false := by rw [beq_eq_false_iff_ne]; exact h128
        rw [this]
        simp only [primerref01_Get.j0, Bool.false_eq_true, if_false]
        obtain ⟨K, hK⟩ : ∃ K : Nat, (K : Int) = bt s 0 % 128 := ⟨(bt s 0 % 128).toNat, by omega⟩
        rw [← hK, w64 _ (by omega) (by omega)]
        have c1 : ¬ (bt s 0 % 128 > 7 ∨ 128 ≤ bt s 0 ∧ bt s 0 % 128 = 0) := by omega
        by_cases hs : (s.size : Int) < (K : Int) + 1
        · rw [if_pos hs]
          unfold getA
          rw [if_neg hz, if_neg c1, if_pos (by omega)]
        · rw [if_neg hs]
          obtain ⟨k', hk', e⟩ := refGet_l0 s K (by omega) (by omega) K 0 k (by omega) (by omega)
          have e' : primerref01_Get.l0 k s K 0 1 = primerref01_Get.l0 k' s K (valB s K) ((K : Int) + 1) := e
          rw [e']
          obtain ⟨k', rfl⟩ : ∃ j, k' = j + 1 := ⟨k' - 1, by omega⟩
          have hv := valB_lt s K (by omega)
          simp only [primerref01_Get.l0]
          rw [if_neg (by omega), if_pos (by omega)]
          have e8 : ((K : Int) + 1).toNat = K + 1 := by omega
          by_cases hb : bt s 0 > 127
          · rw [if_pos hb, w64 (-valB s K) (by omega) (by omega), refPut_eq _ (by omega) k' (by omega), Option.bind_some, w64 _ (by omega) (by omega), if_pos (by omega), if_pos (by omega), e8]
            rw [getA_iff s K hK hz c1 (by omega) (-valB s K) (by rw [if_pos (by omega)])]
            simp only [bytes_strOf_eq _ (putL_range _)]
            split <;> rfl
          · rw [if_neg hb, refPut_eq _ (by omega) k' (by omega), Option.bind_some, w64 _ (by omega) (by omega), if_pos (by omega), if_pos (by omega), e8]
            rw [getA_iff s K hK hz c1 (by omega) (valB s K) (by rw [if_neg (by omega)])]
            simp only [bytes_strOf_eq _ (putL_range _)]
            split <;> rfl
end Go.Proofs.Ytnajmemcdipknaa.PK
namespace Go.Proofs.Ytnajmemcdipknaa.PK
open Go.RowKit Go.Proofs.YtnajmemcdipknaaW.PrintWords Go.Proofs.YtnajmemcdipknaaW.PrintLast Go.Proofs.YtnajmemcdipknaaW.PrintMore
set_option linter.unusedVariables false
set_option linter.unusedSimpArgs false
set_option maxRecDepth 100000
def inInt (s : ByteArray) (e : Int) : Int × ByteArray × Int :=
  if e = 0 then (if (getA s).2.2 = 0 then ((getA s).1, s.extract (getA s).2.1.toNat s.size, 0) else (0, s, (getA s).2.2)) else (0, s, e)
theorem getA_ok (s : ByteArray) (h : (getA s).2.2 = 0) : 1 ≤ (getA s).2.1 ∧ (getA s).2.1 ≤ s.size ∧ (getA s).2.1 ≤ 8 ∧ -9007199254740992 ≤ (getA s).1 ∧ (getA s).1 ≤ 9007199254740992 ∧ putL (getA s).1 = (bytesOf s).take (getA s).2.1.toNat := by
  have := put_get s (getA s).1 (getA s).2.1 (by rw [← h])
  exact ⟨this.2.1, this.2.2.1, this.2.2.2.1, this.2.2.2.2.1, this.2.2.2.2.2, this.1⟩
theorem ext_size (s : ByteArray) (k : Nat) : (s.extract k s.size).size = s.size - k := by
  rw [← bytesOf_len, bytesOf_extract, ← bytesOf_len]; simp
theorem ext0_size (s : ByteArray) (k : Nat) (h : k ≤ s.size) : (s.extract 0 k).size = k := by
  rw [← bytesOf_len, bytesOf_extract]; simp [bytesOf_len]; omega
theorem inInt_size (s : ByteArray) (e : Int) : (inInt s e).2.1.size ≤ s.size := by
  unfold inInt
  split
  · split
    · show (s.extract _ s.size).size ≤ _; rw [ext_size]; omega
    · exact Nat.le_refl _
  · exact Nat.le_refl _
theorem inInt_range (s : ByteArray) (e : Int) : -9007199254740992 ≤ (inInt s e).1 ∧ (inInt s e).1 ≤ 9007199254740992 := by
  unfold inInt
  split
  · split
    · rename_i h; have := getA_ok s h; exact ⟨this.2.2.2.1, this.2.2.2.2.1⟩
    · exact ⟨by show (-9007199254740992 : Int) ≤ 0; omega, by show (0 : Int) ≤ 9007199254740992; omega⟩
  · exact ⟨by show (-9007199254740992 : Int) ≤ 0; omega, by show (0 : Int) ≤ 9007199254740992; omega⟩
theorem inInt_err (s : ByteArray) (e : Int) (h : (inInt s e).2.2 ≠ 0) : (inInt s e).1 = 0 := by
  unfold inInt at h ⊢
  split
  · split
    · rename_i h1 h2; rw [if_pos h1, if_pos h2] at h; exact absurd rfl h
    · rfl
  · rfl
theorem In_Int_eq (s : ByteArray) (e : Int) : octets_In_Int.f s e = some (inInt s e) := by
  unfold octets_In_Int.f octets_In_ready.f inInt
  simp only [Option.bind_some]
  by_cases h : e = 0
  · subst h
    unfold octets_Get.f octets_In_fail.f
    simp only [beq_self_eq_true, if_true, Option.bind_some]
    by_cases h2 : (getA s).2.2 = 0
    · have := getA_ok s h2
      rw [if_pos h2, if_pos h2, if_pos (by omega), if_pos (by omega)]
    · rw [if_neg h2, if_neg h2]
  · have : (e == 0) = false := by rw [beq_eq_false_iff_ne]; exact h
    rw [this, if_neg h]
    rfl
theorem ref_Int_eq (s : ByteArray) (e : Int) (hs : s.size ≤ 140737488355328) (k : Nat) (hk : 25 ≤ k) : primerref01_Int.f k s e = some (inInt s e) := by
  unfold primerref01_Int.f inInt
  by_cases h : e = 0
  · subst h
    simp only [if_true]
    rw [refGet_eq s (by omega) k hk, Option.bind_some]
    by_cases h2 : (getA s).2.2 = 0
    · have := getA_ok s h2
      rw [if_pos h2, if_pos h2, if_pos (by omega), if_pos (by omega)]
    · rw [if_neg h2, if_neg h2]
  · rw [if_neg h, if_neg h]
def inBool (s : ByteArray) (e : Int) : Bool × ByteArray × Int :=
  if e = 0 then (if s.size = 0 then (false, s, 3) else if bt s 0 > 1 then (false, s, 2) else ((bt s 0 == 1), s.extract 1 s.size, 0)) else (false, s, e)
theorem inBool_size (s : ByteArray) (e : Int) : (inBool s e).2.1.size ≤ s.size := by
  unfold inBool
  repeat' split
  all_goals first | exact Nat.le_refl _ | (show (s.extract _ s.size).size ≤ _; rw [ext_size]; omega)
/-- The error that a length's number is. -/
def sizeErr (n most : Int) : Int := if n < 0 then 2 else if n > most ∨ n > 65536 then 6 else 0
def inSize (s : ByteArray) (e most : Int) : Int × ByteArray × Int :=
  if (inInt s e).2.2 = 0 then (if sizeErr (inInt s e).1 most = 0 then (inInt s e).1 else 0, (inInt s e).2.1, sizeErr (inInt s e).1 most) else (0, (inInt s e).2.1, (inInt s e).2.2)
theorem inSize_ok (s : ByteArray) (e most : Int) (h : (inSize s e most).2.2 = 0) : 0 ≤ (inSize s e most).1 ∧ (inSize s e most).1 ≤ 65536 ∧ (inSize s e most).1 ≤ most := by
  unfold inSize at h ⊢
  split at h
  · rename_i h1
    have h' : sizeErr (inInt s e).1 most = 0 := h
    rw [if_pos h1]
    show 0 ≤ (if sizeErr (inInt s e).1 most = 0 then (inInt s e).1 else 0) ∧ (if sizeErr (inInt s e).1 most = 0 then (inInt s e).1 else 0) ≤ 65536 ∧ (if sizeErr (inInt s e).1 most = 0 then (inInt s e).1 else 0) ≤ most
    rw [if_pos h']
    unfold sizeErr at h'
    split at h'
    · omega
    · split at h' <;> omega
  · rename_i h1
    exact absurd h h1
theorem inSize_err (s : ByteArray) (e most : Int) (h : (inSize s e most).2.2 ≠ 0) : (inSize s e most).1 = 0 := by
  unfold inSize at h ⊢
  split
  · rename_i h1
    rw [if_pos h1] at h
    exact if_neg h
  · rfl
theorem inSize_size (s : ByteArray) (e most : Int) : (inSize s e most).2.1.size ≤ s.size := by
  unfold inSize
  have := inInt_size s e
  split <;> exact this
theorem In_size_eq (s : ByteArray) (e most : Int) (k : Nat) (hk : 1 ≤ k) : octets_In_size.f k s e most = some (inSize s e most) := by
  obtain ⟨k, rfl⟩ : ∃ j, k = j + 1 := ⟨k - 1, by omega⟩
  unfold octets_In_size.f
  rw [In_Int_eq, Option.bind_some]
  have herr := inInt_err s e
  unfold inSize
  generalize inInt s e = r at herr ⊢
  obtain ⟨n, s1, e1⟩ := r
  simp only at herr ⊢
  unfold octets_In_fail.f octets_In_ready.f
  by_cases h1 : e1 = 0
  · subst h1
    simp only [if_true, Option.bind_some]
    by_cases h2 : n < 0
    · have : sizeErr n most = 2 := by unfold sizeErr; rw [if_pos h2]
      rw [if_pos h2, this]
      simp
    · rw [if_neg h2]
      by_cases h3 : n > most
      · have : sizeErr n most = 6 := by unfold sizeErr; rw [if_neg h2, if_pos (.inl h3)]
        rw [if_pos h3, this]
        simp [octets_In_size.j0, octets_In_fail.f, octets_In_ready.f]
      · rw [if_neg h3]
        by_cases h4 : n > 65536
        · have : sizeErr n most = 6 := by unfold sizeErr; rw [if_neg h2, if_pos (.inr h4)]
          have hd : decide (n > 65536) = true := by simp; omega
          rw [this, hd]
          simp [octets_In_size.j0, octets_In_fail.f, octets_In_ready.f]
        · have : sizeErr n most = 0 := by unfold sizeErr; rw [if_neg h2, if_neg (by omega)]
          have hd : decide (n > 65536) = false := by simp; omega
          rw [this, hd]
          simp [octets_In_size.j0, octets_In_fail.f, octets_In_ready.f]
  · have hn : n = 0 := herr h1
    subst hn
    have hb : (e1 == 0) = false := by rw [beq_eq_false_iff_ne]; exact h1
    rw [if_neg (by omega), if_neg h1]
    by_cases h3 : (0 : Int) > most
    · rw [if_pos h3]
      simp [octets_In_size.j0, octets_In_fail.f, octets_In_ready.f, h1, hb]
    · rw [if_neg h3]
      simp [octets_In_size.j0, octets_In_fail.f, octets_In_ready.f, h1, hb]
theorem ref_Size_eq (s : ByteArray) (e most : Int) (hs : s.size ≤ 140737488355328) (k : Nat) (hk : 30 ≤ k) : primerref01_Size.f k s e most = some (inSize s e most) := by
  obtain ⟨k, rfl⟩ : ∃ j, k = j + 1 + 1 + 1 := ⟨k - 3, by omega⟩
  unfold primerref01_Size.f
  rw [ref_Int_eq s e hs _ (by omega), Option.bind_some]
  have herr := inInt_err s e
  unfold inSize
  generalize inInt s e = r at herr ⊢
  obtain ⟨n, s1, e1⟩ := r
  simp only at herr ⊢
  by_cases h1 : e1 = 0
  · subst h1
    simp only [if_true]
    by_cases h2 : n < 0
    · have : sizeErr n most = 2 := by unfold sizeErr; rw [if_pos h2]
      have hd : decide (n < 0) = true := by simp; omega
      rw [this, hd]
      simp [primerref01_Size.j0, primerref01_Size.j1, primerref01_Size.j2]
    · have hd : decide (n < 0) = false := by simp; omega
      rw [hd]
      by_cases h3 : n > most
      · have : sizeErr n most = 6 := by unfold sizeErr; rw [if_neg h2, if_pos (.inl h3)]
        rw [this]
        simp [primerref01_Size.j0, primerref01_Size.j1, primerref01_Size.j2, h3]
      · by_cases h4 : n > 65536
        · have : sizeErr n most = 6 := by unfold sizeErr; rw [if_neg h2, if_pos (.inr h4)]
          rw [this]
          simp [primerref01_Size.j0, primerref01_Size.j1, primerref01_Size.j2, h3, h4]
        · have : sizeErr n most = 0 := by unfold sizeErr; rw [if_neg h2, if_neg (by omega)]
          rw [this]
          simp [primerref01_Size.j0, primerref01_Size.j1, primerref01_Size.j2, h3, h4]
  · rw [if_neg h1, if_neg h1]
    simp [primerref01_Size.j0, primerref01_Size.j1, primerref01_Size.j2, h1]
def inText (s : ByteArray) (e : Int) : ByteArray × ByteArray × Int :=
  if (inSize s e 65536).2.2 = 0 then
    (if (inSize s e 65536).1 > ((inSize s e 65536).2.1.size : Int) then ((⟨#[]⟩ : ByteArray), (inSize s e 65536).2.1, 3)
     else ((inSize s e 65536).2.1.extract 0 (inSize s e 65536).1.toNat, (inSize s e 65536).2.1.extract (inSize s e 65536).1.toNat (inSize s e 65536).2.1.size, 0))
  else ((⟨#[]⟩ : ByteArray), (inSize s e 65536).2.1, (inSize s e 65536).2.2)
theorem inSize_stop (s : ByteArray) (e most : Int) (h : e ≠ 0) : inSize s e most = (0, s, e) := by
  have : inInt s e = (0, s, e) := by unfold inInt; rw [if_neg h]
  unfold inSize
  rw [this, if_neg h]
theorem inText_stop (s : ByteArray) (e : Int) (h : e ≠ 0) : inText s e = (⟨#[]⟩, s, e) := by
  unfold inText
  rw [inSize_stop s e _ h, if_neg h]
theorem inText_size (s : ByteArray) (e : Int) : (inText s e).2.1.size ≤ s.size ∧ (inText s e).1.size ≤ 65536 := by
  have h := inSize_size s e 65536
  have h0 := inSize_ok s e 65536
  unfold inText
  split
  · rename_i h1
    have := h0 h1
    split
    · exact ⟨h, Nat.zero_le _⟩
    · refine ⟨?_, ?_⟩
      · show ((inSize s e 65536).2.1.extract _ (inSize s e 65536).2.1.size).size ≤ _
        rw [ext_size]; omega
      · show ((inSize s e 65536).2.1.extract 0 _).size ≤ _
        rw [ext0_size _ _ (by omega)]; omega
  · exact ⟨h, Nat.zero_le _⟩
theorem In_Text_eq (s : ByteArray) (e : Int) (k : Nat) (hk : 1 ≤ k) : octets_In_Text.f k s e = some (inText s e) := by
  unfold octets_In_Text.f octets_In_ready.f
  simp only [Option.bind_some]
  by_cases h : e = 0
  · subst h
    simp only [beq_self_eq_true, if_true]
    rw [In_size_eq s 0 65536 k hk, Option.bind_some]
    obtain ⟨k, rfl⟩ : ∃ j, k = j + 1 := ⟨k - 1, by omega⟩
    have h0 := inSize_ok s 0 65536
    have hsz := inSize_size s 0 65536
    unfold inText
    generalize inSize s 0 65536 = r at h0 hsz ⊢
    obtain ⟨n, s1, e1⟩ := r
    simp only at h0 hsz ⊢
    simp only [octets_In_Text.j0, octets_In_ready.f, octets_In_fail.f, Option.bind_some]
    by_cases h1 : e1 = 0
    · subst h1
      have := h0 rfl
      simp only [beq_self_eq_true, if_true, Option.bind_some]
      by_cases h2 : n > (s1.size : Int)
      · rw [if_pos h2, if_pos h2]
      · rw [if_neg h2, if_neg h2, if_pos (by omega), if_pos (by omega)]
    · have hb : (e1 == 0) = false := by rw [beq_eq_false_iff_ne]; exact h1
      simp [hb, h1]
  · have hb : (e == 0) = false := by rw [beq_eq_false_iff_ne]; exact h
    obtain ⟨k, rfl⟩ : ∃ j, k = j + 1 := ⟨k - 1, by omega⟩
    rw [inText_stop s e h]
    simp [octets_In_Text.j0, octets_In_ready.f, octets_In_fail.f, hb]
theorem ref_Text_eq (s : ByteArray) (e : Int) (hs : s.size ≤ 140737488355328) (k : Nat) (hk : 31 ≤ k) : primerref01_Text.f k s e = some (inText s e) := by
  obtain ⟨k, rfl⟩ : ∃ j, k = j + 1 := ⟨k - 1, by omega⟩
  unfold primerref01_Text.f
  rw [ref_Size_eq s e 65536 hs _ (by omega), Option.bind_some]
  have h0 := inSize_ok s e 65536
  unfold inText
  generalize inSize s e 65536 = r at h0 ⊢
  obtain ⟨n, s1, e1⟩ := r
  simp only at h0 ⊢
  by_cases h1 : e1 = 0
  · subst h1
    have := h0 rfl
    simp only [if_true]
    by_cases h2 : n > (s1.size : Int)
    · have hd : decide (n > (s1.size : Int)) = true := by simp; omega
      rw [if_pos h2, hd]
      simp [primerref01_Text.j0]
    · have hd : decide (n > (s1.size : Int)) = false := by simp; omega
      rw [if_neg h2, hd]
      simp only [primerref01_Text.j0, Bool.false_eq_true, if_false, if_true]
      rw [if_pos (by omega), if_pos (by omega)]
  · rw [if_neg h1, if_neg h1]
    simp [primerref01_Text.j0, h1]
/-- So many of them, one behind the other; none where one fails. -/
def seqL {α : Type} (f : ByteArray → α × ByteArray × Int) : Nat → ByteArray → List α × ByteArray × Int
  | 0, s => ([], s, 0)
  | n + 1, s =>
    if (f s).2.2 = 0 then
      (if (seqL f n (f s).2.1).2.2 = 0 then ((f s).1 :: (seqL f n (f s).2.1).1, (seqL f n (f s).2.1).2.1, 0) else ([], (seqL f n (f s).2.1).2.1, (seqL f n (f s).2.1).2.2))
    else ([], (f s).2.1, (f s).2.2)
def inSeq {α : Type} (f : ByteArray → α × ByteArray × Int) (s : ByteArray) (e most : Int) : List α × ByteArray × Int :=
  if (inSize s e most).2.2 = 0 then seqL f (inSize s e most).1.toNat (inSize s e most).2.1 else ([], (inSize s e most).2.1, (inSize s e most).2.2)
def inInts (s : ByteArray) (e most : Int) : List Int × ByteArray × Int := inSeq (fun s => inInt s 0) s e most
def inTexts (s : ByteArray) (e most : Int) : List ByteArray × ByteArray × Int := inSeq (fun s => inText s 0) s e most
theorem seqL_len {α : Type} (f : ByteArray → α × ByteArray × Int) (n : Nat) (s : ByteArray) : (seqL f n s).1.length ≤ n := by
  induction n generalizing s with
  | zero => simp [seqL]
  | succ n ih =>
    simp only [seqL]
    split
    · split
      · simp; exact ih _
      · simp
    · simp
theorem seqL_size {α : Type} (f : ByteArray → α × ByteArray × Int) (hf : ∀ s, (f s).2.1.size ≤ s.size) (n : Nat) (s : ByteArray) : (seqL f n s).2.1.size ≤ s.size := by
  induction n generalizing s with
  | zero => simp [seqL]
  | succ n ih =>
    have h1 := hf s
    have h2 := ih (f s).2.1
    simp only [seqL]
    split
    · split
      · show (seqL f n (f s).2.1).2.1.size ≤ _; omega
      · show (seqL f n (f s).2.1).2.1.size ≤ _; omega
    · exact h1
theorem seqL_err {α : Type} (f : ByteArray → α × ByteArray × Int) (n : Nat) (s : ByteArray) (h : (seqL f n s).2.2 ≠ 0) : (seqL f n s).1 = [] := by
  cases n with
  | zero => exact absurd rfl h
  | succ n =>
    simp only [seqL] at h ⊢
    split
    · rename_i h2
      rw [if_pos h2] at h
      split
      · rename_i h3; rw [if_pos h3] at h; exact absurd rfl h
      · rfl
    · rfl
/-- What a loop that gathers has told at its end. -/
def gath {α : Type} (f : ByteArray → α × ByteArray × Int) (acc : List α) (r : Nat) (s : ByteArray) : List α × ByteArray × Int :=
  (if (seqL f r s).2.2 = 0 then acc ++ (seqL f r s).1 else [], (seqL f r s).2.1, (seqL f r s).2.2)
theorem gath_zero {α : Type} (f : ByteArray → α × ByteArray × Int) (acc : List α) (s : ByteArray) : gath f acc 0 s = (acc, s, 0) := by simp [gath, seqL]
theorem gath_ok {α : Type} (f : ByteArray → α × ByteArray × Int) (acc : List α) (r : Nat) (s : ByteArray) (h : (f s).2.2 = 0) : gath f acc (r + 1) s = gath f (acc ++ [(f s).1]) r (f s).2.1 := by
  unfold gath
  simp only [seqL, h, if_true]
  by_cases hh : (seqL f r (f s).2.1).2.2 = 0
  · simp [hh]
  · simp [hh]
theorem gath_bad {α : Type} (f : ByteArray → α × ByteArray × Int) (acc : List α) (r : Nat) (s : ByteArray) (h : (f s).2.2 ≠ 0) : gath f acc (r + 1) s = ([], (f s).2.1, (f s).2.2) := by
  unfold gath
  simp [seqL, h]
theorem gath_all {α : Type} (f : ByteArray → α × ByteArray × Int) (r : Nat) (s : ByteArray) : gath f [] r s = seqL f r s := by
  unfold gath
  by_cases h : (seqL f r s).2.2 = 0
  · rw [if_pos h]; rfl
  · rw [if_neg h]
    have := seqL_err f r s h
    rw [← this]
theorem inSeq_stop {α : Type} (f : ByteArray → α × ByteArray × Int) (s : ByteArray) (e most : Int) (h : e ≠ 0) : inSeq f s e most = ([], s, e) := by
  unfold inSeq
  rw [inSize_stop s e _ h, if_neg h]
theorem In_Texts_l0 (r : Nat) : ∀ (k : Nat) (acc : List ByteArray) (n i : Int) (s : ByteArray), 0 ≤ i → i + r = n → n ≤ 65536 → acc.length + r ≤ 65536 → r + 1 < k →
    octets_In_Texts.l0 k acc n i s 0 = some (gath (fun s => inText s 0) acc r s) := by
  induction r with
  | zero =>
    intro k acc n i s h0 h1 h2 h3 hk
    obtain ⟨k, rfl⟩ : ∃ j, k = j + 1 := ⟨k - 1, by omega⟩
    simp only [octets_In_Texts.l0]
    rw [if_neg (by omega), gath_zero]
  | succ r ih =>
    intro k acc n i s h0 h1 h2 h3 hk
    obtain ⟨k, rfl⟩ : ∃ j, k = j + 1 := ⟨k - 1, by omega⟩
    simp only [octets_In_Texts.l0]
    rw [if_pos (by omega), In_Text_eq _ _ _ (by omega), Option.bind_some, if_pos (by omega)]
    unfold octets_In_ready.f
    simp only [Option.bind_some]
    by_cases h : (inText s 0).2.2 = 0
    · rw [gath_ok _ _ _ _ h, h, w64 _ (by omega) (by omega)]
      simp only [beq_self_eq_true, if_true]
      exact ih k _ n (i + 1) _ (by omega) (by omega) h2 (by simp; omega) (by omega)
    · have hb : ((inText s 0).2.2 == 0) = false := by rw [beq_eq_false_iff_ne]; exact h
      rw [gath_bad _ _ _ _ h, hb]
      rfl
theorem In_Texts_eq (s : ByteArray) (e most : Int) (k : Nat) (hk : 65539 ≤ k) : octets_In_Texts.f k s e most = some (inTexts s e most) := by
  unfold octets_In_Texts.f octets_In_ready.f inTexts
  simp only [Option.bind_some]
  by_cases h : e = 0
  · subst h
    simp only [beq_self_eq_true, if_true]
    rw [In_size_eq s 0 most k (by omega), Option.bind_some]
    unfold inSeq
    by_cases h1 : (inSize s 0 most).2.2 = 0
    · have := inSize_ok s 0 most h1
      rw [if_pos h1, h1, In_Texts_l0 (inSize s 0 most).1.toNat k [] _ 0 _ (by omega) (by omega) (by omega) (by simp; omega) (by omega), gath_all]
    · have hz := inSize_err s 0 most h1
      rw [if_neg h1, hz]
      obtain ⟨k, rfl⟩ : ∃ j, k = j + 1 := ⟨k - 1, by omega⟩
      simp [octets_In_Texts.l0]
  · have hb : (e == 0) = false := by rw [beq_eq_false_iff_ne]; exact h
    rw [hb, inSeq_stop _ s e most h]
    rfl
theorem ref_Texts_stop (k : Nat) (hk : 1 ≤ k) (n : Int) (acc : List ByteArray) (i : Int) (s : ByteArray) (e : Int) (h : e ≠ 0) : primerref01_Texts.l0 k n acc i s e = some ([], s, e) := by
  obtain ⟨k, rfl⟩ : ∃ j, k = j + 1 := ⟨k - 1, by omega⟩
  simp only [primerref01_Texts.l0]
  by_cases hi : i < n
  · rw [if_pos hi, if_neg h]
  · rw [if_neg hi, if_neg h]
theorem ref_Texts_l0 (r : Nat) : ∀ (k : Nat) (acc : List ByteArray) (n i : Int) (s : ByteArray), s.size ≤ 140737488355328 → 0 ≤ i → i + r = n → n ≤ 65536 → acc.length + r ≤ 65536 → r + 33 < k →
    primerref01_Texts.l0 k n acc i s 0 = some (gath (fun s => inText s 0) acc r s) := by
  induction r with
  | zero =>
    intro k acc n i s hs h0 h1 h2 h3 hk
    obtain ⟨k, rfl⟩ : ∃ j, k = j + 1 := ⟨k - 1, by omega⟩
    simp only [primerref01_Texts.l0]
    rw [if_neg (by omega), if_pos trivial, gath_zero]
  | succ r ih =>
    intro k acc n i s hs h0 h1 h2 h3 hk
    obtain ⟨k, rfl⟩ : ∃ j, k = j + 1 := ⟨k - 1, by omega⟩
    simp only [primerref01_Texts.l0]
    rw [if_pos (by omega), if_pos trivial, ref_Text_eq s 0 hs k (by omega), Option.bind_some, if_pos (by omega), w64 _ (by omega) (by omega)]
    have hsz := (inText_size s 0).1
    by_cases h : (inText s 0).2.2 = 0
    · rw [gath_ok _ _ _ _ h, h]
      exact ih k _ n (i + 1) _ (by omega) (by omega) (by omega) h2 (by simp; omega) (by omega)
    · rw [gath_bad _ _ _ _ h, ref_Texts_stop k (by omega) _ _ _ _ _ h]
theorem ref_Texts_eq (s : ByteArray) (e most : Int) (hs : s.size ≤ 140737488355328) (k : Nat) (hk : 65575 ≤ k) : primerref01_Texts.f k s e most = some (inTexts s e most) := by
  unfold primerref01_Texts.f inTexts
  rw [ref_Size_eq s e most hs k (by omega), Option.bind_some]
  unfold inSeq
  have hz := inSize_size s e most
  by_cases h1 : (inSize s e most).2.2 = 0
  · have := inSize_ok s e most h1
    rw [if_pos h1, h1, ref_Texts_l0 (inSize s e most).1.toNat k [] _ 0 _ (by omega) (by omega) (by omega) (by omega) (by simp; omega) (by omega), gath_all]
  · rw [if_neg h1, ref_Texts_stop k (by omega) _ _ _ _ _ h1]
def inEnd (s : ByteArray) (e : Int) : Int := if e = 0 then (if s.size = 0 then 0 else 4) else e
theorem In_End_eq (s : ByteArray) (e : Int) : octets_In_End.f s e = some (inEnd s e, s, e) := by
  unfold octets_In_End.f octets_In_Err.f inEnd
  simp only [Option.bind_some]
  by_cases h : e = 0
  · rw [if_pos h, if_pos h]
    by_cases h2 : s.size = 0
    · rw [if_pos ((toList_nil_iff s).mpr h2), if_pos h2]
    · rw [if_neg (fun h => h2 ((toList_nil_iff s).mp h)), if_neg h2]
  · rw [if_neg h, if_neg h]
theorem inSeq_size {α : Type} (f : ByteArray → α × ByteArray × Int) (hf : ∀ s, (f s).2.1.size ≤ s.size) (s : ByteArray) (e most : Int) : (inSeq f s e most).2.1.size ≤ s.size := by
  unfold inSeq
  have h1 := inSize_size s e most
  split
  · have := seqL_size f hf (inSize s e most).1.toNat (inSize s e most).2.1
    omega
  · exact h1
theorem inInts_size (s : ByteArray) (e most : Int) : (inInts s e most).2.1.size ≤ s.size := inSeq_size _ (fun s => inInt_size s 0) s e most
theorem inTexts_size (s : ByteArray) (e most : Int) : (inTexts s e most).2.1.size ≤ s.size := inSeq_size _ (fun s => (inText_size s 0).1) s e most
theorem inSeq_len {α : Type} (f : ByteArray → α × ByteArray × Int) (s : ByteArray) (e most : Int) : (inSeq f s e most).1.length ≤ 65536 := by
  unfold inSeq
  split
  · rename_i h
    have h1 := inSize_ok s e most h
    have := seqL_len f (inSize s e most).1.toNat (inSize s e most).2.1
    omega
  · exact Nat.zero_le _
end Go.Proofs.Ytnajmemcdipknaa.PK
