/- What Put and Get tell, in plain numbers: Get undoes Put, and Get takes nothing but what Put makes; the document's Put and Get tell the same. Condition: none. -/
import Derived.Test.YtcflcmoblngfbaaKg
import Derived.Test.YtcflcmoblngfbaaKo
import Derived.Test.YtcflcmoblngfbaaKb
import Derived.Test.YtcflcmoblngfbaaPKx2
import Derived.Test.YtcflcmoblngfbaaPKx3
namespace Go.Proofs.Ytcflcmoblngfbaa.PK
open Go.RowKit Go.Proofs.YtcflcmoblngfbaaW.PrintWords Go.Proofs.YtcflcmoblngfbaaW.PrintLast Go.Proofs.YtcflcmoblngfbaaW.PrintMore
set_option linter.unusedVariables false
set_option linter.unusedSimpArgs false

theorem ediv2 (m a b : Int) (ha : 0 ≤ a) : m / (a * b) = m / a / b := by rw [Int.ediv_ediv, if_neg (by omega)]; omega
theorem p256_pos (k : Nat) : (0 : Int) < 256 ^ k := Int.pow_pos (by omega)
theorem p256_succ (k : Nat) : (256 : Int) ^ (k + 1) = 256 * 256 ^ k := by rw [Int.pow_succ, Int.mul_comm]
/-- The digits of m are d: no more, no less. -/
def Digs (d : Nat) (m : Int) : Prop := 0 ≤ m ∧ m < 256 ^ d ∧ (∀ e, d = e + 1 → 256 ^ e ≤ m)
theorem digs_zero (m : Int) : Digs 0 m ↔ m = 0 := by
  unfold Digs; simp; omega
theorem digs_succ (d : Nat) (m : Int) : Digs (d + 1) m ↔ 0 < m ∧ Digs d (m / 256) := by
  have hp := p256_pos d
  constructor
  · rintro ⟨h0, h1, h2⟩
    have h2 := h2 d rfl
    rw [p256_succ] at h1
    refine ⟨by omega, by omega, by omega, fun e he => ?_⟩
    subst he
    rw [p256_succ] at h2
    omega
  · rintro ⟨h0, h1, h2, h3⟩
    refine ⟨by omega, by rw [p256_succ]; omega, fun e he => ?_⟩
    obtain rfl : d = e := by omega
    cases d with
    | zero => simp; omega
    | succ e => have := h3 e rfl; rw [p256_succ]; omega
theorem digs_nb (m : Int) (h0 : 0 ≤ m) (h1 : m ≤ 72057594037927935) : Digs (nb m) m := by
  unfold nb
  have e : ∀ d : Nat, d ≤ 7 → (256 : Int) ^ d < 256 ^ d + 1 := fun d _ => by omega
  unfold Digs
  repeat' split
  · refine ⟨h0, by omega, fun e he => by omega⟩
  · refine ⟨h0, by omega, fun e he => ?_⟩; obtain rfl : e = 0 := by omega
    simp; omega
  · refine ⟨h0, by omega, fun e he => ?_⟩; obtain rfl : e = 1 := by omega
    omega
  · refine ⟨h0, by omega, fun e he => ?_⟩; obtain rfl : e = 2 := by omega
    omega
  · refine ⟨h0, by omega, fun e he => ?_⟩; obtain rfl : e = 3 := by omega
    omega
  · refine ⟨h0, by omega, fun e he => ?_⟩; obtain rfl : e = 4 := by omega
    omega
  · refine ⟨h0, by omega, fun e he => ?_⟩; obtain rfl : e = 5 := by omega
    omega
  · refine ⟨h0, by omega, fun e he => ?_⟩; obtain rfl : e = 6 := by omega
    omega
theorem digs_inj (d e : Nat) (m : Int) (h : Digs d m) (k : Digs e m) : d = e := by
  induction d generalizing e m with
  | zero =>
    rw [digs_zero] at h
    cases e with
    | zero => rfl
    | succ e => rw [digs_succ] at k; omega
  | succ d ih =>
    rw [digs_succ] at h
    cases e with
    | zero => rw [digs_zero] at k; omega
    | succ e => rw [digs_succ] at k; rw [ih e _ h.2 k.2]
theorem beL_snoc (d : Nat) (m : Int) : beL (d + 1) m = beL d (m / 256) ++ [m % 256] := by
  induction d with
  | zero => simp [beL]
  | succ d ih =>
    have e : m / 256 ^ (d + 1) = m / 256 / 256 ^ d := by
      rw [p256_succ, ediv2 _ _ _ (by omega)]
    show (m / 256 ^ (d + 1)) % 256 :: beL (d + 1) m = ((m / 256) / 256 ^ d) % 256 :: beL d (m / 256) ++ [m % 256]
    rw [e, ih]
    rfl
theorem beL_get (k : Nat) (m : Int) (j : Nat) (h : j < k) : (beL k m).getD j 0 = (m / 256 ^ (k - 1 - j)) % 256 := by
  induction k generalizing j with
  | zero => omega
  | succ k ih =>
    cases j with
    | zero => simp [beL]
    | succ j =>
      show (beL k m).getD j 0 = _
      rw [ih j (by omega)]
      congr 3
      omega
/-- The value of the bytes that a number's digits are. -/
theorem valB_of (s : ByteArray) (K : Nat) (m : Int) (h0 : 0 ≤ m) (h1 : m < 256 ^ K) (hb : ∀ j : Nat, j < K → bt s ((j : Int) + 1) = (m / 256 ^ (K - 1 - j)) % 256) (i : Nat) (hi : i ≤ K) : valB s i = m / 256 ^ (K - i) := by
  induction i with
  | zero =>
    simp only [valB, Nat.sub_zero]
    rw [Int.ediv_eq_zero_of_lt h0 h1]
  | succ i ih =>
    simp only [valB]
    rw [ih (by omega), hb i (by omega)]
    have e1 : K - i = (K - (i + 1)) + 1 := by omega
    have e2 : K - 1 - i = K - (i + 1) := by omega
    rw [e1, e2, p256_succ]
    have : m / (256 * 256 ^ (K - (i + 1))) = m / 256 ^ (K - (i + 1)) / 256 := by
      rw [Int.mul_comm, ediv2 _ _ _ (by have := p256_pos (K - (i + 1)); omega)]
    rw [this]
    omega
theorem valB_digits (s : ByteArray) (K : Nat) (j : Nat) (h : j < K) : bt s ((j : Int) + 1) = (valB s K / 256 ^ (K - 1 - j)) % 256 := by
  induction K with
  | zero => omega
  | succ K ih =>
    simp only [valB]
    have hb := bt_range s ((K : Int) + 1)
    rcases Nat.lt_or_ge j K with hj | hj
    · have e : K + 1 - 1 - j = (K - 1 - j) + 1 := by omega
      rw [e, p256_succ, ediv2 _ _ _ (by omega)]
      have : (valB s K * 256 + bt s ((K : Int) + 1)) / 256 = valB s K := by omega
      rw [this]
      exact ih hj
    · obtain rfl : j = K := by omega
      have e : j + 1 - 1 - j = 0 := by omega
      rw [e]
      simp
      omega
theorem head_get (l : List Int) (t : ByteArray) (s : ByteArray) (hs : bytesOf s = l ++ bytesOf t) (j : Nat) (hj : j < l.length) : bt s (j : Int) = l.getD j 0 := by
  rw [bt_nat, hs, List.getD_eq_getElem?_getD, List.getElem?_append_left hj, List.getD_eq_getElem?_getD]
theorem nat_pow (a : Nat) : (256 : Int) ^ a = ((256 ^ a : Nat) : Int) := by simp
theorem putL_form (n : Int) (h : -9007199254740992 ≤ n ∧ n ≤ 9007199254740992) : ∃ (sg m : Int) (K : Nat), putL n = (sg + K) :: beL K m ∧ Digs K m ∧ K ≤ 7 ∧ 0 ≤ m ∧ m ≤ 9007199254740992 ∧ ((sg = 0 ∧ n = m) ∨ (sg = 128 ∧ n = -m ∧ 0 < m)) := by
  unfold putL
  rw [if_neg (by omega)]
  split
  · exact ⟨128, -n, nb (-n), rfl, digs_nb _ (by omega) (by omega), nb_le _, by omega, by omega, .inr ⟨rfl, by omega, by omega⟩⟩
  · exact ⟨0, n, nb n, by simp, digs_nb _ (by omega) (by omega), nb_le _, by omega, by omega, .inl ⟨rfl, rfl⟩⟩
/-- Get, behind what Put made. -/
theorem get_put (n : Int) (h : -9007199254740992 ≤ n ∧ n ≤ 9007199254740992) (s t : ByteArray) (hs : bytesOf s = putL n ++ bytesOf t) : getA s = (n, ((putL n).length : Int), 0) := by
  obtain ⟨sg, m, K, hp, hd, hK, hm0, hm1, hc⟩ := putL_form n h
  have hl : (putL n).length = K + 1 := by rw [hp]; simp [beL_length]
  have hsz : s.size = K + 1 + t.size := by
    have := congrArg List.length hs
    rw [List.length_append, bytesOf_len, bytesOf_len, hl] at this
    exact this
  have b0 : bt s 0 = sg + K := by
    have := head_get (putL n) t s hs 0 (by omega)
    rw [hp] at this
    exact this
  have bj : ∀ j : Nat, j < K → bt s ((j : Int) + 1) = (m / 256 ^ (K - 1 - j)) % 256 := by
    intro j hj
    have := head_get (putL n) t s hs (j + 1) (by omega)
    rw [hp] at this
    have e : ((j + 1 : Nat) : Int) = (j : Int) + 1 := by omega
    rw [e] at this
    rw [this]
    exact beL_get K m j hj
  have hv : valB s K = m := by
    have := valB_of s K m hm0 hd.2.1 bj K (Nat.le_refl _)
    rw [Nat.sub_self] at this
    simpa using this
  have hk : bt s 0 % 128 = K := by rw [b0]; rcases hc with ⟨rfl, _⟩ | ⟨rfl, _⟩ <;> omega
  have hk' : (bt s 0 % 128).toNat = K := by omega
  have h1 : K > 0 → bt s 1 ≠ 0 := by
    intro hk0
    have := bj 0 hk0
    simp only [Int.natCast_zero, Int.zero_add, Nat.sub_zero] at this
    have hlo := hd.2.2 (K - 1) (by omega)
    have hhi := hd.2.1
    have e : K = (K - 1) + 1 := by omega
    rw [e, p256_succ] at hhi
    have hp := p256_pos (K - 1)
    rw [this]
    have a1 : 1 ≤ m / 256 ^ (K - 1) := Int.le_ediv_of_mul_le hp (by omega)
    have a2 : m / 256 ^ (K - 1) < 256 := Int.ediv_lt_of_lt_mul hp (by omega)
    omega
  have hz : ¬ s.size = 0 := by omega
  have c1 : ¬ (bt s 0 % 128 > 7 ∨ 128 ≤ bt s 0 ∧ bt s 0 % 128 = 0) := by
    rw [hk]
    rintro (h | ⟨h, h'⟩)
    · omega
    · rcases hc with ⟨rfl, _⟩ | ⟨rfl, _, hpos⟩
      · omega
      · have : K = 0 := by omega
        subst this
        have := (digs_zero m).mp hd
        omega
  have c2 : ¬ ((s.size : Int) ≤ bt s 0 % 128) := by omega
  have c3 : ¬ (valB s (bt s 0 % 128).toNat > 9007199254740992 ∨ bt s 0 % 128 > 0 ∧ bt s 1 = 0) := by
    rw [hk', hv]
    rintro (h | ⟨h, h'⟩)
    · omega
    · exact h1 (by omega) h'
  unfold getA
  rw [if_neg hz, if_neg c1, if_neg c2, if_neg c3, hk', hv, hk, hl]
  rcases hc with ⟨rfl, rfl⟩ | ⟨rfl, rfl, hpos⟩
  · rw [if_neg (by omega)]; rfl
  · rw [if_pos (by omega)]; rfl
/-- Where Get tells a number, the bytes are those that Put makes of it. -/
theorem put_get (s : ByteArray) (n k : Int) (h : getA s = (n, k, 0)) : putL n = (bytesOf s).take k.toNat ∧ 1 ≤ k ∧ k ≤ s.size ∧ k ≤ 8 ∧ -9007199254740992 ≤ n ∧ n ≤ 9007199254740992 := by
  have hb0 := bt_range s 0
  unfold getA at h
  split at h
  · simp at h
  · rename_i hz
    split at h
    · simp at h
    · rename_i c1
      split at h
      · simp at h
      · rename_i c2
        split at h
        · simp at h
        · rename_i c3
          simp only [Prod.mk.injEq, and_true] at h
          obtain ⟨hn, rfl⟩ := h
          obtain ⟨K, hK⟩ : ∃ K : Nat, (K : Int) = bt s 0 % 128 := ⟨(bt s 0 % 128).toNat, by omega⟩
          rw [← hK] at c1 c2 c3 hn ⊢
          rw [Int.toNat_natCast] at c3 hn
          have hv := valB_range s K
          have hd : Digs K (valB s K) := by
            refine ⟨hv.1, hv.2, fun e he => ?_⟩
            subst he
            have h1 : bt s 1 ≠ 0 := fun h => c3 (.inr ⟨by omega, h⟩)
            have hr1 := bt_range s 1
            have := valB_digits s (e + 1) 0 (by omega)
            simp only [Int.natCast_zero, Int.zero_add] at this
            have e2 : e + 1 - 1 - 0 = e := by omega
            rw [e2] at this
            have hp := p256_pos e
            rcases (show valB s (e + 1) < 256 ^ e ∨ 256 ^ e ≤ valB s (e + 1) from by omega) with hlt | hge
            · rw [Int.ediv_eq_zero_of_lt hv.1 hlt] at this
              omega
            · exact hge
          have hle : valB s K ≤ 9007199254740992 := by
            rcases (show 9007199254740992 < valB s K ∨ valB s K ≤ 9007199254740992 from by omega) with h | h
            · exact absurd (.inl h) c3
            · exact h
          have hnb : nb (valB s K) = K := digs_inj _ _ _ (digs_nb _ hv.1 (by omega)) hd
          have htk : ((K : Int) + 1).toNat = K + 1 := by omega
          have tail : beL K (valB s K) = (List.range K).map fun (j : Nat) => bt s ((j : Int) + 1) := by
            apply List.ext_getElem
            · simp [beL_length]
            · intro i h1 h2
              have hi : i < K := by rw [beL_length] at h1; exact h1
              have := beL_get K (valB s K) i hi
              rw [List.getD_eq_getElem?_getD, List.getElem?_eq_getElem h1] at this
              simp only [Option.getD_some] at this
              rw [this, ← valB_digits s K i hi]
              simp
          have whole : (bytesOf s).take (K + 1) = bt s 0 :: beL K (valB s K) := by
            rw [bytes_take s (K + 1) (by omega), tail, List.range_succ_eq_map]
            simp [Function.comp]
          rw [htk, whole]
          refine ⟨?_, by omega, by omega, by omega, ?_⟩
          · by_cases hb : 128 ≤ bt s 0
            · rw [if_pos hb] at hn
              have hpos : 0 < valB s K := by
                rcases Nat.eq_zero_or_pos K with hk0 | hk0
                · exact absurd (.inr ⟨hb, by omega⟩) c1
                · have := hd.2.2 (K - 1) (by omega)
                  have := p256_pos (K - 1)
                  omega
              subst hn
              unfold putL
              rw [if_neg (by omega), if_pos (by omega), Int.neg_neg, hnb]
              congr 1
              omega
            · rw [if_neg hb] at hn
              subst hn
              unfold putL
              rw [if_neg (by omega), if_neg (by omega), hnb]
              congr 1
              omega
          · split at hn <;> omega
end Go.Proofs.Ytcflcmoblngfbaa.PK
