/- Numbers one behind the other, cut off anywhere: what is read again. Plain; condition: none. -/
import Derived.Test.YtcflcmoblngfbaaKt
namespace Go.Proofs.Ytcflcmoblngfbaa.PK
open Go.RowKit Go.Proofs.YtcflcmoblngfbaaW.PrintWords Go.Proofs.YtcflcmoblngfbaaW.PrintLast Go.Proofs.YtcflcmoblngfbaaW.PrintMore
set_option linter.unusedVariables false
set_option linter.unusedSimpArgs false
theorem mask_range (x : Int) : 0 ≤ Go.bits .and .i64 x 9007199254740991 ∧ Go.bits .and .i64 x 9007199254740991 ≤ 9007199254740991 := by
  have h : Go.bits .and .i64 x 9007199254740991 = IntKind.i64.wrap ((BitVec.ofInt 64 x &&& BitVec.ofInt 64 9007199254740991).toNat : Int) := rfl
  have e : (BitVec.ofInt 64 9007199254740991).toNat = 9007199254740991 := by decide +kernel
  rw [h, BitVec.toNat_and, e]
  have hle : (BitVec.ofInt 64 x).toNat &&& 9007199254740991 ≤ 9007199254740991 := Nat.and_le_right
  rw [IntKind.wrap_i64]
  omega
def maskN (x : Int) : Int := Go.bits .and .i64 x 9007199254740991
theorem putL_mask_len (x : Int) : 1 ≤ (putL (maskN x)).length := by
  have h := mask_range x
  obtain ⟨sg, m, K, hp, _⟩ := putL_form (maskN x) (by unfold maskN; omega)
  rw [hp]; simp
/-- The bytes of the first numbers of a list. -/
def catL (xs : List Int) : List Int := xs.flatMap fun x => putL (maskN x)
def endL (xs : List Int) (i : Nat) : Nat := (catL (xs.take i)).length
theorem catL_snoc (xs : List Int) (i : Nat) (h : i < xs.length) : catL (xs.take (i + 1)) = catL (xs.take i) ++ putL (maskN xs[i]) := by
  unfold catL
  rw [List.take_succ_eq_append_getElem h, List.flatMap_append]
  simp
theorem catL_range (xs : List Int) : ∀ y ∈ catL xs, 0 ≤ y ∧ y ≤ 255 := by
  intro y hy
  unfold catL at hy
  obtain ⟨x, _, hx⟩ := List.mem_flatMap.1 hy
  exact putL_range _ y hx
theorem endL_zero (xs : List Int) : endL xs 0 = 0 := by simp [endL, catL]
theorem endL_succ (xs : List Int) (i : Nat) (h : i < xs.length) : endL xs (i + 1) = endL xs i + (putL (maskN xs[i])).length := by
  unfold endL; rw [catL_snoc xs i h, List.length_append]
theorem endL_le (xs : List Int) (i : Nat) (h : i ≤ xs.length) : endL xs i ≤ 8 * i := by
  induction i with
  | zero => simp [endL_zero]
  | succ i ih =>
    rw [endL_succ xs i (by omega)]
    have := ih (by omega)
    have := putL_len (maskN xs[i])
    omega
theorem catL_split (xs : List Int) (n i : Nat) (hn : n ≤ xs.length) (h : i < n) : ∃ rest, catL (xs.take n) = catL (xs.take i) ++ (putL (maskN xs[i]) ++ rest) := by
  refine ⟨catL ((xs.take n).drop (i + 1)), ?_⟩
  have e : xs.take n = xs.take (i + 1) ++ (xs.take n).drop (i + 1) := by
    have := (List.take_append_drop (i + 1) (xs.take n)).symm
    rw [List.take_take, Nat.min_eq_left (by omega)] at this
    exact this
  rw [e]
  show catL _ = _
  have e2 : catL (xs.take (i + 1) ++ (xs.take n).drop (i + 1)) = catL (xs.take (i + 1)) ++ catL ((xs.take n).drop (i + 1)) := by
    unfold catL; rw [List.flatMap_append]
  rw [e2, catL_snoc xs i (by omega), List.append_assoc]
  congr 3
  rw [← e]
/-- A beginning of a number's bytes that is not all of them. -/
theorem getA_short (n : Int) (h : 0 ≤ n ∧ n ≤ 9007199254740992) (s : ByteArray) (c : Nat) (hc : c < (putL n).length) (hs : bytesOf s = (putL n).take c) : getA s = (0, 0, 3) := by
  obtain ⟨sg, m, K, hp, hd, hK, hm0, hm1, hcase⟩ := putL_form n (by omega)
  have hsg : sg = 0 := by
    rcases hcase with ⟨h1, _⟩ | ⟨_, h2, h3⟩
    · exact h1
    · omega
  subst hsg
  have hl : (putL n).length = K + 1 := by rw [hp]; simp [beL_length]
  have hsz : s.size = c := by
    have := congrArg List.length hs
    rw [bytesOf_len, List.length_take] at this
    omega
  unfold getA
  by_cases h0 : s.size = 0
  · rw [if_pos h0]
  · have b0 : bt s 0 = K := by
      rw [bt_eq, hs, hp]
      obtain ⟨c', rfl⟩ : ∃ c', c = c' + 1 := ⟨c - 1, by omega⟩
      simp
    rw [if_neg h0, if_neg (by omega), if_pos (by omega)]
/-- What is left to be read, at the i-th number. -/
def CutSt (xs : List Int) (n c i : Nat) (s : ByteArray) (e : Int) : Prop :=
  (endL xs i ≤ c ∧ e = 0 ∧ bytesOf s = ((catL (xs.take n)).take c).drop (endL xs i)) ∨ (c < endL xs i ∧ e = 3)
theorem cut_step (xs : List Int) (n c i : Nat) (hn : n ≤ xs.length) (hi : i < n) (s : ByteArray) (e : Int) (h : CutSt xs n c i s e) :
    CutSt xs n c (i + 1) (inInt s e).2.1 (inInt s e).2.2 ∧ (endL xs (i + 1) ≤ c → (inInt s e).2.2 = 0 ∧ (inInt s e).1 = maskN xs[i]) ∧ (c < endL xs (i + 1) → (inInt s e).2.2 = 3 ∧ (inInt s e).1 = 0) := by
  have hE := endL_succ xs i (by omega)
  have hm := mask_range xs[i]
  obtain ⟨rest, hrest⟩ := catL_split xs n i hn hi
  rcases h with ⟨h1, rfl, h2⟩ | ⟨h1, rfl⟩
  · have h2' : bytesOf s = (putL (maskN xs[i]) ++ rest).take (c - endL xs i) := by
      rw [h2, hrest, List.drop_take]
      congr 1
      exact List.drop_left
    by_cases hc : endL xs (i + 1) ≤ c
    · have h3 : bytesOf s = putL (maskN xs[i]) ++ rest.take (c - endL xs (i + 1)) := by
        rw [h2', List.take_append]
        rw [List.take_of_length_le (by omega), show c - endL xs i - (putL (maskN xs[i])).length = c - endL xs (i + 1) by omega]
      have hg := get_put (maskN xs[i]) (by unfold maskN; omega) s (strOfNums (rest.take (c - endL xs (i + 1)))) (by
        rw [h3, strOf_bytes]
        intro y hy
        have hmem : y ∈ bytesOf s := by rw [h3]; exact List.mem_append_right _ hy
        exact bytesOf_range s y hmem)
      have hin : inInt s 0 = (maskN xs[i], s.extract (putL (maskN xs[i])).length s.size, 0) := by
        unfold inInt
        rw [if_pos rfl, hg, if_pos rfl, Int.toNat_natCast]
      rw [hin]
      refine ⟨.inl ⟨hc, rfl, ?_⟩, fun _ => ⟨rfl, rfl⟩, fun h => absurd hc (by omega)⟩
      show bytesOf (s.extract _ s.size) = _
      rw [bytesOf_extract, ← bytesOf_len, List.take_length, h2, List.drop_drop, hE]
    · have h3 : bytesOf s = (putL (maskN xs[i])).take (c - endL xs i) := by
        rw [h2', List.take_append_of_le_length (by omega)]
      have hg := getA_short (maskN xs[i]) (by unfold maskN; omega) s (c - endL xs i) (by omega) h3
      have hin : inInt s 0 = (0, s, 3) := by
        unfold inInt
        rw [if_pos rfl, hg, if_neg (by decide)]
      rw [hin]
      exact ⟨.inr ⟨by omega, rfl⟩, fun h => absurd h hc, fun _ => ⟨rfl, rfl⟩⟩
  · have hin : inInt s 3 = (0, s, 3) := by
      unfold inInt; rw [if_neg (by decide)]
    rw [hin]
    exact ⟨.inr ⟨by omega, rfl⟩, fun h => absurd h (by omega), fun _ => ⟨rfl, rfl⟩⟩
theorem cut_start (xs : List Int) (n c : Nat) (s : ByteArray) (hs : bytesOf s = (catL (xs.take n)).take c) : CutSt xs n c 0 s 0 :=
  .inl ⟨by rw [endL_zero]; omega, rfl, by rw [hs, endL_zero]; rfl⟩
theorem modP (p : Int) (L : Nat) : -(L : Int) ≤ Int.tmod p ((L : Int) + 1) ∧ Int.tmod p ((L : Int) + 1) ≤ L ∧
    Int.tmod (Int.tmod p ((L : Int) + 1) + L + 1) ((L : Int) + 1) = (Int.tmod p ((L : Int) + 1) + L + 1) % ((L : Int) + 1) ∧ 0 ≤ (Int.tmod p ((L : Int) + 1) + L + 1) % ((L : Int) + 1) ∧ (Int.tmod p ((L : Int) + 1) + L + 1) % ((L : Int) + 1) ≤ L := by
  have h1 := Int.lt_tmod_of_pos p (show (0 : Int) < (L : Int) + 1 by omega)
  have h2 := Int.tmod_lt_of_pos p (show (0 : Int) < (L : Int) + 1 by omega)
  have h3 := Int.emod_nonneg (Int.tmod p ((L : Int) + 1) + L + 1) (show ((L : Int) + 1) ≠ 0 by omega)
  have h4 := Int.emod_lt_of_pos (Int.tmod p ((L : Int) + 1) + L + 1) (show (0 : Int) < (L : Int) + 1 by omega)
  exact ⟨by omega, by omega, Int.tmod_eq_emod_of_nonneg (by omega), h3, by omega⟩
end Go.Proofs.Ytcflcmoblngfbaa.PK
