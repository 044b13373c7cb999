/- The document's Get tells what the program's tells. Condition: none.
How a law's arguments are read, kind by kind: from the row's reading to what the walks ask. Condition: none.
Marks as bytes: Put and Get of the program and of the document. Condition: none.
Reading, in plain words: what the program's In and the document's In tell is the same function. Condition: the bytes are no more than 2^47.
Small contracts and words for the walks of the laws: Err, End; an element that is read; what stays where something else is written. Condition: none.
Names and function values: IndexFunc and ContainsFunc over texts, with a test that changes nothing. Condition: none.
Functions of the given program as plain Lean functions, and that the Go code answers what they tell (a law's row: the given statement, out of its plain form). Conditions: none beyond each theorem's own premises. Written by this repo's program wip/myprint.py. -/
import Derived.Test.YtnajmemcdipknaaJe
import Derived.Test.YtnajmemcdipknaaWWords
import Derived.Test.YtnajmemcdipknaaWMore
import Derived.ProofKit
import Derived.OpenShut
import Derived.Deep.Slices
import Derived.SizedLaws
import Derived.DataShut
import Derived.Test.YtnajmemcdipknaaJb
import Derived.Test.YtnajmemcdipknaaJc
import Derived.Test.YtnajmemcdipknaaJd
import Derived.Test.YtnajmemcdipknaaProg
import Derived.Below
import Derived.Deep.Draws
import Derived.Deep.AppendLies
import Derived.Maps.AppendAt
import Derived.OwnWalk
import Derived.Laws.BytesArg
import Derived.Laws.MakeOwn
import Derived.Laws.OwnMore
import Derived.Deep.OwnRows
import Derived.Tactics
import Derived.Lib.ConvBytes
import Derived.Laws.Slices
import Derived.WalkKit
import Derived.KernelRfl
import Derived.RowKit3
import Derived.Deep.LoopGhost
import Derived.Deep.QuietTactic
import Derived.BigQuiet
import Derived.WideLaws
import Derived.Deep.DeepCutAuto
import Derived.Deep.CutBlock
import Derived.Deep.RegionHeld3
import Derived.Laws.Rows
import Derived.Lib.AppendStr
import Derived.ArgAppend
import Derived.Laws.IdiomCopy
import Derived.OrdersHeld
import Derived.Laws.BitsLemmas
import Derived.RowKit
import Derived.Test.YtnajmemcdipknaaJa
import Derived.Test.YtnajmemcdipknaaWLast
import Derived.Test.YtnajmemcdipknaaWTab
import Derived.Test.YtnajmemcdipknaaWFour
import Derived.Test.YtnajmemcdipknaaWQPut
import Derived.Test.YtnajmemcdipknaaWApart
import Derived.Test.YtnajmemcdipknaaWArr
import Derived.Test.YtnajmemcdipknaaWZeros
import Derived.Test.YtnajmemcdipknaaWFoot
import Derived.Test.YtnajmemcdipknaaWKept
import Derived.Test.YtnajmemcdipknaaWShare
import Derived.Test.YtnajmemcdipknaaWN
import Derived.Test.YtnajmemcdipknaaWFootNe
import Derived.Test.YtnajmemcdipknaaWAt
import Derived.Test.YtnajmemcdipknaaWEqStruct
import Derived.Test.YtnajmemcdipknaaWRepsOne
import Derived.Test.YtnajmemcdipknaaWInv
import Derived.Test.YtnajmemcdipknaaWInvWords
import Derived.Test.YtnajmemcdipknaaWGuard
import Derived.Test.YtnajmemcdipknaaWNEv
namespace Go.Proofs.Ytnajmemcdipknaa.PK
open Go.RowKit Go.Proofs.YtnajmemcdipknaaW.PrintWords Go.Proofs.YtnajmemcdipknaaW.PrintLast Go.Proofs.YtnajmemcdipknaaW.PrintMore
set_option linter.unusedVariables false
set_option linter.unusedSimpArgs false
set_option maxRecDepth 100000
theorem refGet_l0 (s : ByteArray) (K : Nat) (hK : K ≤ 7) (hs : K + 1 ≤ s.size) (j : Nat) : ∀ (i k : Nat), i + j = K → j + 13 ≤ k →
    ∃ k', 12 ≤ k' ∧ primerref01_Get.l0 k s K (valB s i) ((i : Int) + 1) = primerref01_Get.l0 k' s K (valB s K) ((K : Int) + 1) := by
  induction j with
  | zero =>
    intro i k hi hk
    obtain rfl : i = K := by omega
    exact ⟨k, by omega, rfl⟩
  | succ j ih =>
    intro i k hi hk
    obtain ⟨k, rfl⟩ : ∃ j, k = j + 1 := ⟨k - 1, by omega⟩
    obtain ⟨k', hk', e⟩ := ih (i + 1) k (by omega) (by omega)
    refine ⟨k', hk', ?_⟩
    rw [← e]
    have hv := valB_lt s i (by omega)
    have hv2 := valB_lt s (i + 1) (by omega)
    have hb := bt_range s ((i : Int) + 1)
    have hsum : valB s (i + 1) = valB s i * 256 + bt s ((i : Int) + 1) := rfl
    simp only [primerref01_Get.l0]
    rw [if_pos (by omega), if_pos (by omega), if_pos (by omega), w64 (256 * valB s i) (by omega) (by omega), w64 (bt s ((i : Int) + 1)) (by omega) (by omega), w64 _ (by omega) (by omega), w64 _ (by omega) (by omega)]
    have e1 : 256 * valB s i + bt s ((i : Int) + 1) = valB s (i + 1) := by rw [hsum]; omega
    rw [e1]
    rfl
theorem bytes_strOf_eq (l : List Int) (h : ∀ x ∈ l, 0 ≤ x ∧ x ≤ 255) (s : ByteArray) (k : Nat) : (strOfNums l).toList = (s.extract 0 k).toList ↔ l = (bytesOf s).take k := by
  rw [toList_iff]
  constructor
  · intro e
    have := congrArg bytesOf e
    rw [strOf_bytes l h, bytesOf_extract] at this
    simpa using this
  · intro e
    apply bytesOf_inj
    rw [strOf_bytes l h, bytesOf_extract, e]
    simp
/-- Get in a form of its own: a number is told just where Put gives the bytes back. -/
theorem getA_iff (s : ByteArray) (K : Nat) (hK : (K : Int) = bt s 0 % 128) (hz : s.size ≠ 0) (c1 : ¬ (bt s 0 % 128 > 7 ∨ 128 ≤ bt s 0 ∧ bt s 0 % 128 = 0)) (hs : K + 1 ≤ s.size) (n : Int) (hn : n = if 128 ≤ bt s 0 then - valB s K else valB s K) :
    getA s = if putL n = (bytesOf s).take (K + 1) then (n, (K : Int) + 1, 0) else (0, 0, 2) := by
  have hb0 := bt_range s 0
  have hg : getA s = if valB s K > 9007199254740992 ∨ (bt s 0 % 128 > 0 ∧ bt s 1 = 0) then (0, 0, 2) else (n, (K : Int) + 1, 0) := by
    have e : (bt s 0 % 128).toNat = K := by omega
    unfold getA
    rw [if_neg hz, if_neg c1, if_neg (by omega), e, ← hn, ← hK]
  by_cases hc : valB s K > 9007199254740992 ∨ (bt s 0 % 128 > 0 ∧ bt s 1 = 0)
  · rw [if_pos hc] at hg
    rw [hg, if_neg]
    intro hp
    have hv := valB_range s K
    have hl : (putL n).length = K + 1 := by rw [hp, List.length_take, bytesOf_len]; omega
    have hfit : -9007199254740992 ≤ n ∧ n ≤ 9007199254740992 := by
      refine Decidable.byContradiction fun h => ?_
      unfold putL at hl
      rw [if_pos (by omega)] at hl
      simp at hl
    have hg2 := get_put n hfit s (s.extract (K + 1) s.size) (by
      rw [hp, bytesOf_extract, ← bytesOf_len, List.take_length, List.take_append_drop])
    rw [hg] at hg2
    simp at hg2
  · rw [if_neg hc] at hg
    have hp := put_get s n ((K : Int) + 1) hg
    have e : ((K : Int) + 1).toNat = K + 1 := by omega
    rw [e] at hp
    rw [hg, if_pos hp.1]
theorem refGet_eq (s : ByteArray) (hsz : s.size ≤ 9223372036854775807) (k : Nat) (hk : 25 ≤ k) : primerref01_Get.f k s = some (getA s) := by
  obtain ⟨k, rfl⟩ : ∃ j, k = j + 1 := ⟨k - 1, by omega⟩
  have hb0 := bt_range s 0
  have e0 : Int.tmod (wrap64 (bt s 0)) 128 = bt s 0 % 128 := by
    rw [w64 _ (by omega) (by omega)]; exact Int.tmod_eq_emod_of_nonneg (by omega)
  unfold primerref01_Get.f
  rw [e0]
  by_cases hz : s.size = 0
  · rw [if_pos ((toList_nil_iff s).mpr hz)]
    unfold getA
    rw [if_pos hz]
  · rw [if_neg (fun h => hz ((toList_nil_iff s).mp h)), if_pos (by omega)]
    by_cases h7 : bt s 0 % 128 > 7
    · rw [if_pos h7]
      simp only [primerref01_Get.j0, if_true]
      unfold getA
      rw [if_neg hz, if_pos (.inl h7)]
    · rw [if_neg h7]
      by_cases h128 : bt s 0 = 128
      · have : (bt s 0 == 128) = true := by rw [beq_iff_eq]; exact h128
        rw [this]
        simp only [primerref01_Get.j0, if_true]
        unfold getA
        rw [if_neg hz, if_pos (.inr (by omega))]
      · have : (bt s 0 == 128) = false := by rw [beq_eq_false_iff_ne]; exact h128
        rw [this]
        simp only [primerref01_Get.j0, Bool.false_eq_true, if_false]
        obtain ⟨K, hK⟩ : ∃ K : Nat, (K : Int) = bt s 0 % 128 := ⟨(bt s 0 % 128).toNat, by omega⟩
        rw [← hK, w64 _ (by omega) (by omega)]
        have c1 : ¬ (bt s 0 % 128 > 7 ∨ 128 ≤ bt s 0 ∧ bt s 0 % 128 = 0) := by omega
        by_cases hs : (s.size : Int) < (K : Int) + 1
        · rw [if_pos hs]
          unfold getA
          rw [if_neg hz, if_neg c1, if_pos (by omega)]
        · rw [if_neg hs]
          obtain ⟨k', hk', e⟩ := refGet_l0 s K (by omega) (by omega) K 0 k (by omega) (by omega)
          have e' : primerref01_Get.l0 k s K 0 1 = primerref01_Get.l0 k' s K (valB s K) ((K : Int) + 1) := e
          rw [e']
          obtain ⟨k', rfl⟩ : ∃ j, k' = j + 1 := ⟨k' - 1, by omega⟩
          have hv := valB_lt s K (by omega)
          simp only [primerref01_Get.l0]
          rw [if_neg (by omega), if_pos (by omega)]
          have e8 : ((K : Int) + 1).toNat = K + 1 := by omega
          by_cases hb : bt s 0 > 127
          · rw [if_pos hb, w64 (-valB s K) (by omega) (by omega), refPut_eq _ (by omega) k' (by omega), Option.bind_some, w64 _ (by omega) (by omega), if_pos (by omega), if_pos (by omega), e8]
            rw [getA_iff s K hK hz c1 (by omega) (-valB s K) (by rw [if_pos (by omega)])]
            simp only [bytes_strOf_eq _ (putL_range _)]
            split <;> rfl
          · rw [if_neg hb, refPut_eq _ (by omega) k' (by omega), Option.bind_some, w64 _ (by omega) (by omega), if_pos (by omega), if_pos (by omega), e8]
            rw [getA_iff s K hK hz c1 (by omega) (valB s K) (by rw [if_neg (by omega)])]
            simp only [bytes_strOf_eq _ (putL_range _)]
            split <;> rfl
end Go.Proofs.Ytnajmemcdipknaa.PK
namespace Go.Proofs.Ytnajmemcdipknaa.PK
open Go.RowKit Go.Proofs.YtnajmemcdipknaaW.PrintWords Go.Proofs.YtnajmemcdipknaaW.PrintLast Go.Proofs.YtnajmemcdipknaaW.PrintMore
open Go.ChangeShapes Go.WideShapes
set_option linter.unusedVariables false
set_option linter.unusedSimpArgs false
set_option maxRecDepth 100000
end Go.Proofs.Ytnajmemcdipknaa.PK
namespace Go.Proofs.Ytnajmemcdipknaa.PK
open Go.RowKit Go.Proofs.YtnajmemcdipknaaW.PrintWords Go.Proofs.YtnajmemcdipknaaW.PrintLast Go.Proofs.YtnajmemcdipknaaW.PrintMore
set_option linter.unusedVariables false
set_option linter.unusedSimpArgs false
set_option maxRecDepth 100000
def putM (b : Nat) : ByteArray := strOfNums (beL 8 (canonB b))
def mArr (n : Nat) (j : Nat) : Array Value := match j with
  | 0 => #[.int .u8 0, .int .u8 0, .int .u8 0, .int .u8 0, .int .u8 0, .int .u8 0, .int .u8 0, .int .u8 0]
  | 1 => #[.int .u8 ((n : Int) / 72057594037927936 % 256), .int .u8 0, .int .u8 0, .int .u8 0, .int .u8 0, .int .u8 0, .int .u8 0, .int .u8 0]
  | 2 => #[.int .u8 ((n : Int) / 72057594037927936 % 256), .int .u8 ((n : Int) / 281474976710656 % 256), .int .u8 0, .int .u8 0, .int .u8 0, .int .u8 0, .int .u8 0, .int .u8 0]
  | 3 => #[.int .u8 ((n : Int) / 72057594037927936 % 256), .int .u8 ((n : Int) / 281474976710656 % 256), .int .u8 ((n : Int) / 1099511627776 % 256), .int .u8 0, .int .u8 0, .int .u8 0, .int .u8 0, .int .u8 0]
  | 4 => #[.int .u8 ((n : Int) / 72057594037927936 % 256), .int .u8 ((n : Int) / 281474976710656 % 256), .int .u8 ((n : Int) / 1099511627776 % 256), .int .u8 ((n : Int) / 4294967296 % 256), .int .u8 0, .int .u8 0, .int .u8 0, .int .u8 0]
  | 5 => #[.int .u8 ((n : Int) / 72057594037927936 % 256), .int .u8 ((n : Int) / 281474976710656 % 256), .int .u8 ((n : Int) / 1099511627776 % 256), .int .u8 ((n : Int) / 4294967296 % 256), .int .u8 ((n : Int) / 16777216 % 256), .int .u8 0, .int .u8 0, .int .u8 0]
  | 6 => #[.int .u8 ((n : Int) / 72057594037927936 % 256), .int .u8 ((n : Int) / 281474976710656 % 256), .int .u8 ((n : Int) / 1099511627776 % 256), .int .u8 ((n : Int) / 4294967296 % 256), .int .u8 ((n : Int) / 16777216 % 256), .int .u8 ((n : Int) / 65536 % 256), .int .u8 0, .int .u8 0]
  | 7 => #[.int .u8 ((n : Int) / 72057594037927936 % 256), .int .u8 ((n : Int) / 281474976710656 % 256), .int .u8 ((n : Int) / 1099511627776 % 256), .int .u8 ((n : Int) / 4294967296 % 256), .int .u8 ((n : Int) / 16777216 % 256), .int .u8 ((n : Int) / 65536 % 256), .int .u8 ((n : Int) / 256 % 256), .int .u8 0]
  | _ => #[.int .u8 ((n : Int) / 72057594037927936 % 256), .int .u8 ((n : Int) / 281474976710656 % 256), .int .u8 ((n : Int) / 1099511627776 % 256), .int .u8 ((n : Int) / 4294967296 % 256), .int .u8 ((n : Int) / 16777216 % 256), .int .u8 ((n : Int) / 65536 % 256), .int .u8 ((n : Int) / 256 % 256), .int .u8 ((n : Int) % 256)]
theorem beL_eight (n : Int) : beL 8 n = [n / 72057594037927936 % 256, n / 281474976710656 % 256, n / 1099511627776 % 256, n / 4294967296 % 256, n / 16777216 % 256, n / 65536 % 256, n / 256 % 256, n % 256] := by
  simp only [beL, show (256 : Int) ^ 7 = 72057594037927936 from rfl, show (256 : Int) ^ 6 = 281474976710656 from rfl, show (256 : Int) ^ 5 = 1099511627776 from rfl, show (256 : Int) ^ 4 = 4294967296 from rfl, show (256 : Int) ^ 3 = 16777216 from rfl, show (256 : Int) ^ 2 = 65536 from rfl, show (256 : Int) ^ 1 = 256 from rfl, show (256 : Int) ^ 0 = 1 from rfl, Int.ediv_one]
theorem C_eight {w : World} {g : Nat} {T : TypeId} {a b c d e f h i : Int} (hb : w.heap[g]? = some (.cells #[.int .u8 a, .int .u8 b, .int .u8 c, .int .u8 d, .int .u8 e, .int .u8 f, .int .u8 h, .int .u8 i] T (0, 0))) : Kd.C (Kd.int .u8) w (some ⟨g, 0, none⟩) 8 [a, b, c, d, e, f, h, i] := by
  refine Kd.C_of_reads (enc := Value.int .u8) (d := (0 : Int)) ⟨rfl, by decide, fun _ => ⟨_, rfl, fun j hj => ?_⟩⟩
  have hadd : (⟨g, 0, none⟩ : Addr).add j = ⟨g, j, none⟩ := by unfold Addr.add; split <;> simp_all
  rw [hadd, blk_cell hb]
  rcases (show j = 0 ∨ j = 1 ∨ j = 2 ∨ j = 3 ∨ j = 4 ∨ j = 5 ∨ j = 6 ∨ j = 7 from by omega) with rfl | rfl | rfl | rfl | rfl | rfl | rfl | rfl <;> rfl
theorem C_one {w : World} {g : Nat} {T : TypeId} {a : Int} (hb : w.heap[g]? = some (.cells #[.int .u8 a] T (0, 0))) : Kd.C (Kd.int .u8) w (some ⟨g, 0, none⟩) 1 [a] := by
  refine Kd.C_of_reads (enc := Value.int .u8) (d := (0 : Int)) ⟨rfl, by decide, fun _ => ⟨_, rfl, fun j hj => ?_⟩⟩
  obtain rfl : j = 0 := by omega
  show w.cell? ⟨g, 0, none⟩ = _
  rw [blk_cell hb]
  rfl
theorem str_nil_app (x : ByteArray) : strOfNums (beL (8 - 8) 0) ++ x = x := by
  apply bytesOf_inj
  rw [bytesOf_append]
  rfl
set_option maxHeartbeats 1600000 in
theorem mput_calls (b : Nat) (hb : b < 18446744073709551616) (w : World) : Calls Try.prog 65 #[.float .f64 b] w fun e w' => e = .returned (.string (putM b)) ∧ Below w.heap.size w w' := by
  obtain ⟨n, hn⟩ : ∃ n, canonB b = n := ⟨_, rfl⟩
  have hlt := canonB_lt hb
  have hc := canon_calls b hb
  rw [hn] at hc hlt
  have HC := Aside0.mk hc
  have HN := Aside0.mk hn
  have HL := Aside0.mk hlt
  clear hn hb hc hlt
  have hf := bits_run n
  go_enter Try.func65, Try.ntmps65
  go_wp2_with fail
  refine (HC.out _).mono ?_
  rintro e w' ⟨rfl, rfl⟩
  go_wp2_with fail
  go_loopw [9] (fun i wr => ∃ j : Nat, j ≤ 8 ∧ i = .int .i64 j ∧ Aside0 (wr.heap[w.heap.size]? = some (.cells (mArr n j) 164 (0, 0))) ∧ Aside0 (Below w.heap.size w wr)) (fun i _ => 8 - (intOf i).toNat)
  case atStart => exact ⟨0, Nat.zero_le _, rfl, ⟨heap_alloc_new w _⟩, ⟨below_alloc (Below.refl _ _) _⟩⟩
  case round =>
    obtain ⟨j, hj, rfl, HM, HB⟩ := hrel
    rcases (show j = 0 ∨ j = 1 ∨ j = 2 ∨ j = 3 ∨ j = 4 ∨ j = 5 ∨ j = 6 ∨ j = 7 ∨ j = 8 from by omega) with rfl | rfl | rfl | rfl | rfl | rfl | rfl | rfl | rfl
    · have HX : Aside0 (wr.heap[w.heap.size]? = some (.cells #[.int .u8 0, .int .u8 0, .int .u8 0, .int .u8 0, .int .u8 0, .int .u8 0, .int .u8 0, .int .u8 0] 164 (0, 0))) := ⟨HM.out⟩
      have hz : wr.cell? ⟨w.heap.size, 0, none⟩ = some (.int .u8 0) := (blk_cell HX.out 0).trans rfl
      have hfz : wr.frozen? ⟨w.heap.size, 0, none⟩ = false := blk_frozen HX.out 0
      clear HM
      go_wp2_with fail
      go_roundw
      case rel => exact ⟨1, by omega, rfl, ⟨Blk.set_ (show Blk wr w.heap.size 164 #[.int .u8 0, .int .u8 0, .int .u8 0, .int .u8 0, .int .u8 0, .int .u8 0, .int .u8 0, .int .u8 0] from HX.out) 0 _⟩, ⟨below_set HB.out (Nat.le_refl _)⟩⟩
      case measure => simp [intOf]
    · have HX : Aside0 (wr.heap[w.heap.size]? = some (.cells #[.int .u8 ((n : Int) / 72057594037927936 % 256), .int .u8 0, .int .u8 0, .int .u8 0, .int .u8 0, .int .u8 0, .int .u8 0, .int .u8 0] 164 (0, 0))) := ⟨HM.out⟩
      have hz : wr.cell? ⟨w.heap.size, 1, none⟩ = some (.int .u8 0) := (blk_cell HX.out 1).trans rfl
      have hfz : wr.frozen? ⟨w.heap.size, 1, none⟩ = false := blk_frozen HX.out 1
      clear HM
      go_wp2_with fail
      go_roundw
      case rel => exact ⟨2, by omega, rfl, ⟨Blk.set_ (show Blk wr w.heap.size 164 #[.int .u8 ((n : Int) / 72057594037927936 % 256), .int .u8 0, .int .u8 0, .int .u8 0, .int .u8 0, .int .u8 0, .int .u8 0, .int .u8 0] from HX.out) 1 _⟩, ⟨below_set HB.out (Nat.le_refl _)⟩⟩
      case measure => simp [intOf]
    · have HX : Aside0 (wr.heap[w.heap.size]? = some (.cells #[.int .u8 ((n : Int) / 72057594037927936 % 256), .int .u8 ((n : Int) / 281474976710656 % 256), .int .u8 0, .int .u8 0, .int .u8 0, .int .u8 0, .int .u8 0, .int .u8 0] 164 (0, 0))) := ⟨HM.out⟩
      have hz : wr.cell? ⟨w.heap.size, 2, none⟩ = some (.int .u8 0) := (blk_cell HX.out 2).trans rfl
      have hfz : wr.frozen? ⟨w.heap.size, 2, none⟩ = false := blk_frozen HX.out 2
      clear HM
      go_wp2_with fail
      go_roundw
      case rel => exact ⟨3, by omega, rfl, ⟨Blk.set_ (show Blk wr w.heap.size 164 #[.int .u8 ((n : Int) / 72057594037927936 % 256), .int .u8 ((n : Int) / 281474976710656 % 256), .int .u8 0, .int .u8 0, .int .u8 0, .int .u8 0, .int .u8 0, .int .u8 0] from HX.out) 2 _⟩, ⟨below_set HB.out (Nat.le_refl _)⟩⟩
      case measure => simp [intOf]
    · have HX : Aside0 (wr.heap[w.heap.size]? = some (.cells #[.int .u8 ((n : Int) / 72057594037927936 % 256), .int .u8 ((n : Int) / 281474976710656 % 256), .int .u8 ((n : Int) / 1099511627776 % 256), .int .u8 0, .int .u8 0, .int .u8 0, .int .u8 0, .int .u8 0] 164 (0, 0))) := ⟨HM.out⟩
      have hz : wr.cell? ⟨w.heap.size, 3, none⟩ = some (.int .u8 0) := (blk_cell HX.out 3).trans rfl
      have hfz : wr.frozen? ⟨w.heap.size, 3, none⟩ = false := blk_frozen HX.out 3
      clear HM
      go_wp2_with fail
      go_roundw
      case rel => exact ⟨4, by omega, rfl, ⟨Blk.set_ (show Blk wr w.heap.size 164 #[.int .u8 ((n : Int) / 72057594037927936 % 256), .int .u8 ((n : Int) / 281474976710656 % 256), .int .u8 ((n : Int) / 1099511627776 % 256), .int .u8 0, .int .u8 0, .int .u8 0, .int .u8 0, .int .u8 0] from HX.out) 3 _⟩, ⟨below_set HB.out (Nat.le_refl _)⟩⟩
      case measure => simp [intOf]
    · have HX : Aside0 (wr.heap[w.heap.size]? = some (.cells #[.int .u8 ((n : Int) / 72057594037927936 % 256), .int .u8 ((n : Int) / 281474976710656 % 256), .int .u8 ((n : Int) / 1099511627776 % 256), .int .u8 ((n : Int) / 4294967296 % 256), .int .u8 0, .int .u8 0, .int .u8 0, .int .u8 0] 164 (0, 0))) := ⟨HM.out⟩
      have hz : wr.cell? ⟨w.heap.size, 4, none⟩ = some (.int .u8 0) := (blk_cell HX.out 4).trans rfl
      have hfz : wr.frozen? ⟨w.heap.size, 4, none⟩ = false := blk_frozen HX.out 4
      clear HM
      go_wp2_with fail
      go_roundw
      case rel => exact ⟨5, by omega, rfl, ⟨Blk.set_ (show Blk wr w.heap.size 164 #[.int .u8 ((n : Int) / 72057594037927936 % 256), .int .u8 ((n : Int) / 281474976710656 % 256), .int .u8 ((n : Int) / 1099511627776 % 256), .int .u8 ((n : Int) / 4294967296 % 256), .int .u8 0, .int .u8 0, .int .u8 0, .int .u8 0] from HX.out) 4 _⟩, ⟨below_set HB.out (Nat.le_refl _)⟩⟩
      case measure => simp [intOf]
    · have HX : Aside0 (wr.heap[w.heap.size]? = some (.cells #[.int .u8 ((n : Int) / 72057594037927936 % 256), .int .u8 ((n : Int) / 281474976710656 % 256), .int .u8 ((n : Int) / 1099511627776 % 256), .int .u8 ((n : Int) / 4294967296 % 256), .int .u8 ((n : Int) / 16777216 % 256), .int .u8 0, .int .u8 0, .int .u8 0] 164 (0, 0))) := ⟨HM.out⟩
      have hz : wr.cell? ⟨w.heap.size, 5, none⟩ = some (.int .u8 0) := (blk_cell HX.out 5).trans rfl
      have hfz : wr.frozen? ⟨w.heap.size, 5, none⟩ = false := blk_frozen HX.out 5
      clear HM
      go_wp2_with fail
      go_roundw
      case rel => exact ⟨6, by omega, rfl, ⟨Blk.set_ (show Blk wr w.heap.size 164 #[.int .u8 ((n : Int) / 72057594037927936 % 256), .int .u8 ((n : Int) / 281474976710656 % 256), .int .u8 ((n : Int) / 1099511627776 % 256), .int .u8 ((n : Int) / 4294967296 % 256), .int .u8 ((n : Int) / 16777216 % 256), .int .u8 0, .int .u8 0, .int .u8 0] from HX.out) 5 _⟩, ⟨below_set HB.out (Nat.le_refl _)⟩⟩
      case measure => simp [intOf]
    · have HX : Aside0 (wr.heap[w.heap.size]? = some (.cells #[.int .u8 ((n : Int) / 72057594037927936 % 256), .int .u8 ((n : Int) / 281474976710656 % 256), .int .u8 ((n : Int) / 1099511627776 % 256), .int .u8 ((n : Int) / 4294967296 % 256), .int .u8 ((n : Int) / 16777216 % 256), .int .u8 ((n : Int) / 65536 % 256), .int .u8 0, .int .u8 0] 164 (0, 0))) := ⟨HM.out⟩
      have hz : wr.cell? ⟨w.heap.size, 6, none⟩ = some (.int .u8 0) := (blk_cell HX.out 6).trans rfl
      have hfz : wr.frozen? ⟨w.heap.size, 6, none⟩ = false := blk_frozen HX.out 6
      clear HM
      go_wp2_with fail
      go_roundw
      case rel => exact ⟨7, by omega, rfl, ⟨Blk.set_ (show Blk wr w.heap.size 164 #[.int .u8 ((n : Int) / 72057594037927936 % 256), .int .u8 ((n : Int) / 281474976710656 % 256), .int .u8 ((n : Int) / 1099511627776 % 256), .int .u8 ((n : Int) / 4294967296 % 256), .int .u8 ((n : Int) / 16777216 % 256), .int .u8 ((n : Int) / 65536 % 256), .int .u8 0, .int .u8 0] from HX.out) 6 _⟩, ⟨below_set HB.out (Nat.le_refl _)⟩⟩
      case measure => simp [intOf]
    · have HX : Aside0 (wr.heap[w.heap.size]? = some (.cells #[.int .u8 ((n : Int) / 72057594037927936 % 256), .int .u8 ((n : Int) / 281474976710656 % 256), .int .u8 ((n : Int) / 1099511627776 % 256), .int .u8 ((n : Int) / 4294967296 % 256), .int .u8 ((n : Int) / 16777216 % 256), .int .u8 ((n : Int) / 65536 % 256), .int .u8 ((n : Int) / 256 % 256), .int .u8 0] 164 (0, 0))) := ⟨HM.out⟩
      have hz : wr.cell? ⟨w.heap.size, 7, none⟩ = some (.int .u8 0) := (blk_cell HX.out 7).trans rfl
      have hfz : wr.frozen? ⟨w.heap.size, 7, none⟩ = false := blk_frozen HX.out 7
      clear HM
      go_wp2_with fail
      go_roundw
      case rel => exact ⟨8, by omega, rfl, ⟨Blk.set_ (show Blk wr w.heap.size 164 #[.int .u8 ((n : Int) / 72057594037927936 % 256), .int .u8 ((n : Int) / 281474976710656 % 256), .int .u8 ((n : Int) / 1099511627776 % 256), .int .u8 ((n : Int) / 4294967296 % 256), .int .u8 ((n : Int) / 16777216 % 256), .int .u8 ((n : Int) / 65536 % 256), .int .u8 ((n : Int) / 256 % 256), .int .u8 0] from HX.out) 7 _⟩, ⟨below_set HB.out (Nat.le_refl _)⟩⟩
      case measure => simp [intOf]
    · have HX : Aside0 (wr.heap[w.heap.size]? = some (.cells #[.int .u8 ((n : Int) / 72057594037927936 % 256), .int .u8 ((n : Int) / 281474976710656 % 256), .int .u8 ((n : Int) / 1099511627776 % 256), .int .u8 ((n : Int) / 4294967296 % 256), .int .u8 ((n : Int) / 16777216 % 256), .int .u8 ((n : Int) / 65536 % 256), .int .u8 ((n : Int) / 256 % 256), .int .u8 ((n : Int) % 256)] 164 (0, 0))) := ⟨HM.out⟩
      have hcv := Kd.C_string (P := Try.prog) (w := wr) (src := 62) (dst := 9) (e := 5) (A := some ⟨w.heap.size, 0, none⟩) (n := 8) (c := 8) Try.underlying62 Try.underlying5 Try.underlying9 (C_eight HX.out)
      obtain ⟨S, hS⟩ : ∃ S, strOfNums [(n : Int) / 72057594037927936 % 256, (n : Int) / 281474976710656 % 256, (n : Int) / 1099511627776 % 256, (n : Int) / 4294967296 % 256, (n : Int) / 16777216 % 256, (n : Int) / 65536 % 256, (n : Int) / 256 % 256, (n : Int) % 256] = S := ⟨_, rfl⟩
      rw [hS] at hcv
      have HS := Aside0.mk hS
      clear hS HM
      go_wp2
      go_ret
      exact ⟨by rw [show putM b = S from by unfold putM; rw [HN.out, beL_eight, HS.out]]; rfl, HB.out⟩
set_option maxHeartbeats 1600000 in
theorem mput2_calls (b : Nat) (hb : b < 18446744073709551616) (w : World) : Calls Try.prog 64 #[.float .f64 b] w fun e w' => e = .returned (.string (putM b)) ∧ Below w.heap.size w w' := by
  obtain ⟨n, hn⟩ : ∃ n, canonB b = n := ⟨_, rfl⟩
  have hlt := canonB_lt hb
  have hc := canon2_calls b hb
  rw [hn] at hc hlt
  have HC := Aside0.mk hc
  have HN := Aside0.mk hn
  have HL := Aside0.mk hlt
  clear hn hb hc hlt
  have hf := bits_run n
  go_enter Try.func64, Try.ntmps64
  go_wp2_with fail
  refine (HC.out _).mono ?_
  rintro e w' ⟨rfl, rfl⟩
  go_wp2_with fail
  go_loopw [3, 4, 5] (fun v s i wr => ∃ j : Nat, j ≤ 8 ∧ i = .int .i64 j ∧ ∃ (u : Int) (x : ByteArray), v = .int .u64 u ∧ s = .string x ∧ 0 ≤ u ∧ u ≤ 18446744073709551615 ∧ x.size = j ∧ Aside0 (strOfNums (beL (8 - j) u) ++ x = strOfNums (beL 8 n)) ∧ Aside0 (Below w.heap.size w wr)) (fun _ _ i _ => 8 - (intOf i).toNat)
  case atStart => exact ⟨0, Nat.zero_le _, rfl, n, ⟨#[]⟩, rfl, rfl, by omega, by have := HL.out; omega, rfl, ⟨app_empty _⟩, ⟨Below.refl _ _⟩⟩
  case round =>
    obtain ⟨j, hj, rfl, u, x, rfl, rfl, hu0, hu1, hxs, HE, HB⟩ := hrel
    by_cases hj8 : j < 8
    · have hd : decide ((j : Int) < 8) = true := by simp; omega
      have hcv := Kd.C_string (P := Try.prog) (w := wr.alloc (.cells #[.int .u8 (u % 256)] 5)) (src := 62) (dst := 9) (e := 5) (A := some ⟨wr.heap.size, 0, none⟩) (n := 1) (c := 1) Try.underlying62 Try.underlying5 Try.underlying9 (C_one (heap_alloc_new wr (.cells #[.int .u8 (u % 256)] 5)))
      obtain ⟨S, hS⟩ : ∃ S, strOfNums [u % 256] = S := ⟨_, rfl⟩
      have hsz : S.size = 1 := by rw [← hS, strOfNums_size]; rfl
      rw [hS] at hcv
      have HS := Aside0.mk hS
      have cs0 : S.size + x.size ≤ 9223372036854775807 := by omega
      have cs1 := eq_true cs0
      have cs2 : decide (S.size + x.size ≤ 9223372036854775807) = true := decide_eq_true cs0
      have cs3 : (9223372036854775807 < S.size + x.size) = False := eq_false (Nat.not_lt.2 cs0)
      have HSZ := Aside0.mk hsz
      have HXS := Aside0.mk hxs
      clear hS hsz hxs cs0
      go_wp2_with fail
      go_roundw
      case rel => exact ⟨j + 1, by omega, by go_num, u / 256, S ++ x, rfl, rfl, by omega, by omega, by have := HSZ.out; have := HXS.out; rw [size_app]; omega, ⟨by
        rw [← HE.out, ← HS.out, show 8 - j = (8 - (j + 1)) + 1 from by omega, beL_snoc, strOf_append, app_assoc]⟩, ⟨below_alloc HB.out _⟩⟩
      case measure => simp [intOf]; omega
    · have hj8' : j = 8 := by omega
      subst hj8'
      have HE2 : Aside0 (putM b = x) := ⟨by unfold putM; rw [HN.out, ← HE.out]; exact (str_nil_app x).symm⟩
      have hd : decide (((8 : Nat) : Int) < 8) = false := by simp
      clear hj8
      go_wp2
      go_ret
      exact ⟨by rw [HE2.out]; rfl, HB.out⟩
def valM (s : ByteArray) : Nat → Int
  | 0 => 0
  | j + 1 => valM s j * 256 + bt s (j : Int)
theorem valM_range (s : ByteArray) (j : Nat) : 0 ≤ valM s j ∧ valM s j < 256 ^ j := by
  induction j with
  | zero => exact ⟨Int.le_refl _, by show (0 : Int) < 1; decide⟩
  | succ j ih =>
    have hb := bt_range s (j : Int)
    have hp := p256_succ j
    simp only [valM]
    rw [hp]
    omega
theorem p256_le7 : ∀ j : Fin 8, (256 : Int) ^ j.val ≤ 72057594037927936 := by decide +kernel
theorem valM_le7 (s : ByteArray) (j : Nat) (h : j < 8) : 0 ≤ valM s j ∧ valM s j ≤ 72057594037927935 := by
  have h1 := valM_range s j
  have h2 := p256_le7 ⟨j, h⟩
  simp only [] at h2
  omega
theorem valM_le8 (s : ByteArray) : 0 ≤ valM s 8 ∧ valM s 8 ≤ 18446744073709551615 := by
  have h1 := valM_range s 8
  rw [show (256 : Int) ^ 8 = 18446744073709551616 from rfl] at h1
  omega
def getM (s : ByteArray) : Nat × Int := if s.size < 8 then (0, 3) else if 8 < s.size then (0, 4) else if canonB (valM s 8).toNat = (valM s 8).toNat then ((valM s 8).toNat, 0) else (0, 2)
theorem u64_or_nat (a b : Nat) (ha : a < 18446744073709551616) (hb : b < 18446744073709551616) : Go.bits .or .u64 (a : Int) (b : Int) = ((a ||| b : Nat) : Int) := by
  have hx : a ||| b < 2 ^ 64 := Nat.or_lt_two_pow (by omega) (by omega)
  show IntKind.u64.wrap ((BitVec.ofInt 64 (a : Int) ||| BitVec.ofInt 64 (b : Int)).toNat : Int) = _
  rw [BitVec.toNat_or, ofInt_u64 a ha, ofInt_u64 b hb]
  exact IntWalk.u64_in _ (by omega)
theorem or256u (n b : Int) (h0 : 0 ≤ n) (h1 : n ≤ 72057594037927935) (h2 : 0 ≤ b) (h3 : b ≤ 255) : Go.bits .or .u64 (n * 256) b = n * 256 + b := by
  obtain ⟨m, rfl⟩ := Int.eq_ofNat_of_zero_le h0
  obtain ⟨c, rfl⟩ := Int.eq_ofNat_of_zero_le h2
  have h := u64_or_nat (m * 256) c (by omega) (by omega)
  have e : m * 256 ||| c = m * 256 + c := by
    have := Nat.two_pow_add_eq_or_of_lt (b := c) (i := 8) (by omega) m
    rw [Nat.mul_comm m 256]
    exact this.symm
  rw [e] at h
  simp only [Int.natCast_add, Int.natCast_mul, Int.cast_ofNat_Int] at h
  exact h
set_option maxHeartbeats 1600000 in
theorem mget_calls (s : ByteArray) (w : World) : Calls Try.prog 62 #[.string s] w fun e w' => e = .returned (.tuple #[.float .f64 (getM s).1, .int .i64 (getM s).2]) ∧ w = w' := by
  by_cases h1 : s.size < 8
  · have e1 : decide ((s.size : Int) < 8) = true := by simp; omega
    have E : Aside0 (getM s = (0, 3)) := ⟨by unfold getM; rw [if_pos h1]⟩
    clear h1
    go_enter Try.func62, Try.ntmps62
    go_wp2
    go_ret2
    exact ⟨by rw [E.out]; rfl, rfl⟩
  by_cases h2 : 8 < s.size
  · have e1 : decide ((s.size : Int) < 8) = false := by simp; omega
    have e2 : decide ((8 : Int) < (s.size : Int)) = true := by simp; omega
    have E : Aside0 (getM s = (0, 4)) := ⟨by unfold getM; rw [if_neg h1, if_pos h2]⟩
    clear h1 h2
    go_enter Try.func62, Try.ntmps62
    go_wp2
    go_ret2
    exact ⟨by rw [E.out]; rfl, rfl⟩
  have e1 : decide ((s.size : Int) < 8) = false := by simp; omega
  have e2 : decide ((8 : Int) < (s.size : Int)) = false := by simp; omega
  have hs8 : s.size = 8 := by omega
  have EG : Aside0 (getM s = if canonB (valM s 8).toNat = (valM s 8).toNat then ((valM s 8).toNat, 0) else (0, 2)) := ⟨by unfold getM; rw [if_neg h1, if_neg h2]⟩
  have HS8 := Aside0.mk hs8
  clear h1 h2 hs8
  go_enter Try.func62, Try.ntmps62
  go_wp2_with fail
  go_loop [4, 15] (fun n i => ∃ j : Nat, j ≤ 8 ∧ i = .int .i64 j ∧ n = .int .u64 (valM s j)) (fun _ i => 8 - (intOf i).toNat)
  case atStart => exact ⟨0, Nat.zero_le _, rfl, rfl⟩
  case round =>
    obtain ⟨j, hj, rfl, rfl⟩ := hrel
    by_cases hlt : j < 8
    · obtain ⟨hv0, hv1⟩ := valM_le7 s j hlt
      have hbj := bt_range s (j : Int)
      have hor : Go.bits .or .u64 (valM s j * 256) (bt s (j : Int)) = valM s (j + 1) := or256u _ _ hv0 hv1 hbj.1 hbj.2
      have hx : ∀ h : j < s.size, ((s[j]'h).toNat : Int) = bt s (j : Int) := fun h => by
        have := bt_at s (j : Int) (by omega)
        rw [← this]
        rfl
      have q1 : (j < s.size) = True := eq_true (by have := HS8.out; omega)
      have q2 : ((j : Int) < (s.size : Int)) = True := eq_true (by have := HS8.out; omega)
      obtain ⟨hb0, hb1⟩ := hbj
      go_wp2
      go_round
      case rel => exact ⟨j + 1, by omega, by go_num, rfl⟩
      case measure => simp [intOf]; omega
    · obtain rfl : 8 = j := by omega
      obtain ⟨hv0, hv1⟩ := valM_le8 s
      obtain ⟨m, hm⟩ : ∃ m : Nat, valM s 8 = (m : Int) := ⟨(valM s 8).toNat, by omega⟩
      have hmn : (valM s 8).toNat = m := by omega
      rw [hmn] at EG
      rw [hm] at hv0 hv1 ⊢
      have HMB := Aside0.mk hv1
      clear hm hmn hv0 hv1 hlt hj
      have hfr := frombits_run (m : Int)
      have hbt := bits_run (canonB m)
      rw [Int.toNat_natCast] at hfr
      have hd : decide (((8 : Nat) : Int) < 8) = false := by simp
      by_cases hc : canonB m = m
      · have ht : ((canonB m : Int) != (m : Int)) = false := by rw [bne_eq_false_iff_eq, hc]
        have E2 : Aside0 (getM s = (m, 0)) := ⟨by rw [EG.out, if_pos hc]⟩
        clear hc
        go_wp2_with (go_at_call 105; (with_reducible refine (canon_calls m (by have := HMB.out; omega) _).mono ?_); rintro e w' ⟨rfl, rfl⟩)
        go_ret2
        exact ⟨by rw [E2.out]; rfl, rfl⟩
      · have ht : ((canonB m : Int) != (m : Int)) = true := by rw [bne_iff_ne]; omega
        have E2 : Aside0 (getM s = (0, 2)) := ⟨by rw [EG.out, if_neg hc]⟩
        clear hc
        go_wp2_with (go_at_call 105; (with_reducible refine (canon_calls m (by have := HMB.out; omega) _).mono ?_); rintro e w' ⟨rfl, rfl⟩)
        go_ret2
        exact ⟨by rw [E2.out]; rfl, rfl⟩
theorem bytes_eight (s : ByteArray) (h : s.size = 8) : bytesOf s = [bt s 0, bt s 1, bt s 2, bt s 3, bt s 4, bt s 5, bt s 6, bt s 7] := by
  have := bytes_take s 8 (by omega)
  rw [List.take_of_length_le (by rw [bytesOf_len]; omega)] at this
  rw [this]
  rfl
theorem beL_val (s : ByteArray) (h : s.size = 8) : beL 8 (valM s 8) = bytesOf s := by
  rw [bytes_eight s h, beL_eight]
  have h0 := bt_range s 0
  have h1 := bt_range s 1
  have h2 := bt_range s 2
  have h3 := bt_range s 3
  have h4 := bt_range s 4
  have h5 := bt_range s 5
  have h6 := bt_range s 6
  have h7 := bt_range s 7
  have e : valM s 8 = ((((((((0 * 256 + bt s 0) * 256 + bt s 1) * 256 + bt s 2) * 256 + bt s 3) * 256 + bt s 4) * 256 + bt s 5) * 256 + bt s 6) * 256 + bt s 7) := rfl
  rw [e]
  simp only [List.cons.injEq, and_true]
  omega
theorem beL8_inj (a b : Int) (ha : 0 ≤ a ∧ a ≤ 18446744073709551615) (hb : 0 ≤ b ∧ b ≤ 18446744073709551615) (h : beL 8 a = beL 8 b) : a = b := by
  rw [beL_eight, beL_eight] at h
  simp only [List.cons.injEq, and_true] at h
  omega
theorem put_is (s : ByteArray) (h : s.size = 8) (m : Nat) (hm : valM s 8 = (m : Int)) : putM m = s ↔ canonB m = m := by
  have hr := valM_le8 s
  have hc := canonB_lt (b := m) (by omega)
  constructor
  · intro e
    have e2 := congrArg bytesOf e
    unfold putM at e2
    rw [strOf_bytes _ (beL_range _ _), ← beL_val s h, hm] at e2
    have := beL8_inj _ _ (by omega) (by omega) e2
    omega
  · intro e
    apply bytesOf_inj
    unfold putM
    rw [strOf_bytes _ (beL_range _ _), e, ← hm, beL_val s h]
set_option maxHeartbeats 1600000 in
theorem mget2_calls (s : ByteArray) (w : World) : Calls Try.prog 63 #[.string s] w fun e w' => e = .returned (.tuple #[.float .f64 (getM s).1, .int .i64 (getM s).2]) ∧ Below w.heap.size w w' := by
  by_cases h1 : s.size < 8
  · have e1 : decide ((s.size : Int) < 8) = true := by simp; omega
    have E : Aside0 (getM s = (0, 3)) := ⟨by unfold getM; rw [if_pos h1]⟩
    clear h1
    go_enter Try.func63, Try.ntmps63
    go_wp2
    go_ret2
    exact ⟨by rw [E.out]; rfl, Below.refl _ _⟩
  by_cases h2 : 8 < s.size
  · have e1 : decide ((s.size : Int) < 8) = false := by simp; omega
    have e2 : decide ((8 : Int) < (s.size : Int)) = true := by simp; omega
    have E : Aside0 (getM s = (0, 4)) := ⟨by unfold getM; rw [if_neg h1, if_pos h2]⟩
    clear h1 h2
    go_enter Try.func63, Try.ntmps63
    go_wp2
    go_ret2
    exact ⟨by rw [E.out]; rfl, Below.refl _ _⟩
  have e1 : decide ((s.size : Int) < 8) = false := by simp; omega
  have e2 : decide ((8 : Int) < (s.size : Int)) = false := by simp; omega
  have hs8 : s.size = 8 := by omega
  have EG : Aside0 (getM s = if canonB (valM s 8).toNat = (valM s 8).toNat then ((valM s 8).toNat, 0) else (0, 2)) := ⟨by unfold getM; rw [if_neg h1, if_neg h2]⟩
  have HS8 := Aside0.mk hs8
  clear h1 h2 hs8
  go_enter Try.func63, Try.ntmps63
  go_wp2_with fail
  go_loop [4, 5] (fun n i => ∃ j : Nat, j ≤ 8 ∧ i = .int .i64 j ∧ n = .int .u64 (valM s j)) (fun _ i => 8 - (intOf i).toNat)
  case atStart => exact ⟨0, Nat.zero_le _, rfl, rfl⟩
  case round =>
    obtain ⟨j, hj, rfl, rfl⟩ := hrel
    by_cases hlt : j < 8
    · obtain ⟨hv0, hv1⟩ := valM_le7 s j hlt
      have hbj := bt_range s (j : Int)
      have hx : ∀ h : j < s.size, ((s[j]'h).toNat : Int) = bt s (j : Int) := fun h => by
        have := bt_at s (j : Int) (by omega)
        rw [← this]
        rfl
      have q1 : (j < s.size) = True := eq_true (by have := HS8.out; omega)
      have q2 : ((j : Int) < (s.size : Int)) = True := eq_true (by have := HS8.out; omega)
      obtain ⟨hb0, hb1⟩ := hbj
      go_wp2
      go_round
      case rel => exact ⟨j + 1, by omega, by go_num, by rw [show 256 * valM s j + bt s (j : Int) = valM s (j + 1) from by simp only [valM]; omega]⟩
      case measure => simp [intOf]; omega
    · obtain rfl : 8 = j := by omega
      obtain ⟨hv0, hv1⟩ := valM_le8 s
      obtain ⟨m, hm⟩ : ∃ m : Nat, valM s 8 = (m : Int) := ⟨(valM s 8).toNat, by omega⟩
      have hmn : (valM s 8).toNat = m := by omega
      have HP := Aside0.mk (put_is s HS8.out m hm)
      rw [hmn] at EG
      rw [hm] at hv0 hv1 ⊢
      have HMB := Aside0.mk hv1
      clear hm hmn hv0 hv1 hlt hj
      have hfr := frombits_run (m : Int)
      rw [Int.toNat_natCast] at hfr
      have hd : decide (((8 : Nat) : Int) < 8) = false := by simp
      obtain ⟨S, hS⟩ : ∃ S, putM m = S := ⟨_, rfl⟩
      rw [hS] at HP
      have HSS := Aside0.mk hS
      clear hS
      by_cases hc : canonB m = m
      · have ht : (S.toList == s.toList) = true := by rw [beq_iff_eq, toList_iff]; exact HP.out.mpr hc
        have E2 : Aside0 (getM s = (m, 0)) := ⟨by rw [EG.out, if_pos hc]⟩
        clear hc
        go_wp2_with fail
        (with_reducible refine (mput2_calls m (by have := HMB.out; omega) _).mono ?_)
        rintro e w' ⟨rfl, hb⟩
        rw [HSS.out]
        have HB := Aside0.mk hb
        clear hb
        go_wp2
        go_ret2
        exact ⟨by rw [E2.out]; rfl, HB.out⟩
      · have ht : (S.toList == s.toList) = false := by rw [beq_eq_false_iff_ne, ne_eq, toList_iff]; exact fun e => hc (HP.out.mp e)
        have E2 : Aside0 (getM s = (0, 2)) := ⟨by rw [EG.out, if_neg hc]⟩
        clear hc
        go_wp2_with fail
        (with_reducible refine (mput2_calls m (by have := HMB.out; omega) _).mono ?_)
        rintro e w' ⟨rfl, hb⟩
        rw [HSS.out]
        have HB := Aside0.mk hb
        clear hb
        go_wp2
        go_ret2
        exact ⟨by rw [E2.out]; rfl, HB.out⟩
end Go.Proofs.Ytnajmemcdipknaa.PK
namespace Go.Proofs.Ytnajmemcdipknaa.PK
open Go.RowKit Go.Proofs.YtnajmemcdipknaaW.PrintWords Go.Proofs.YtnajmemcdipknaaW.PrintLast Go.Proofs.YtnajmemcdipknaaW.PrintMore
set_option linter.unusedVariables false
set_option linter.unusedSimpArgs false
set_option maxRecDepth 100000
def inInt (s : ByteArray) (e : Int) : Int × ByteArray × Int :=
  if e = 0 then (if (getA s).2.2 = 0 then ((getA s).1, s.extract (getA s).2.1.toNat s.size, 0) else (0, s, (getA s).2.2)) else (0, s, e)
theorem getA_ok (s : ByteArray) (h : (getA s).2.2 = 0) : 1 ≤ (getA s).2.1 ∧ (getA s).2.1 ≤ s.size ∧ (getA s).2.1 ≤ 8 ∧ -9007199254740992 ≤ (getA s).1 ∧ (getA s).1 ≤ 9007199254740992 ∧ putL (getA s).1 = (bytesOf s).take (getA s).2.1.toNat := by
  have := put_get s (getA s).1 (getA s).2.1 (by rw [← h])
  exact ⟨this.2.1, this.2.2.1, this.2.2.2.1, this.2.2.2.2.1, this.2.2.2.2.2, this.1⟩
theorem ext_size (s : ByteArray) (k : Nat) : (s.extract k s.size).size = s.size - k := by
  rw [← bytesOf_len, bytesOf_extract, ← bytesOf_len]; simp
theorem ext0_size (s : ByteArray) (k : Nat) (h : k ≤ s.size) : (s.extract 0 k).size = k := by
  rw [← bytesOf_len, bytesOf_extract]; simp [bytesOf_len]; omega
theorem inInt_size (s : ByteArray) (e : Int) : (inInt s e).2.1.size ≤ s.size := by
  unfold inInt
  split
  · split
    · show (s.extract _ s.size).size ≤ _; rw [ext_size]; omega
    · exact Nat.le_refl _
  · exact Nat.le_refl _
theorem inInt_err (s : ByteArray) (e : Int) (h : (inInt s e).2.2 ≠ 0) : (inInt s e).1 = 0 := by
  unfold inInt at h ⊢
  split
  · split
    · rename_i h1 h2; rw [if_pos h1, if_pos h2] at h; exact absurd rfl h
    · rfl
  · rfl
theorem In_Int_eq (s : ByteArray) (e : Int) : octets_In_Int.f s e = some (inInt s e) := by
  unfold octets_In_Int.f octets_In_ready.f inInt
  simp only [Option.bind_some]
  by_cases h : e = 0
  · subst h
    unfold octets_Get.f octets_In_fail.f
    simp only [beq_self_eq_true, if_true, Option.bind_some]
    by_cases h2 : (getA s).2.2 = 0
    · have := getA_ok s h2
      rw [if_pos h2, if_pos h2, if_pos (by omega), if_pos (by omega)]
    · rw [if_neg h2, if_neg h2]
  · have : (e == 0) = false := by rw [beq_eq_false_iff_ne]; exact h
    rw [this, if_neg h]
    rfl
theorem ref_Int_eq (s : ByteArray) (e : Int) (hs : s.size ≤ 140737488355328) (k : Nat) (hk : 25 ≤ k) : primerref01_Int.f k s e = some (inInt s e) := by
  unfold primerref01_Int.f inInt
  by_cases h : e = 0
  · subst h
    simp only [if_true]
    rw [refGet_eq s (by omega) k hk, Option.bind_some]
    by_cases h2 : (getA s).2.2 = 0
    · have := getA_ok s h2
      rw [if_pos h2, if_pos h2, if_pos (by omega), if_pos (by omega)]
    · rw [if_neg h2, if_neg h2]
  · rw [if_neg h, if_neg h]
/-- The error that a length's number is. -/
def sizeErr (n most : Int) : Int := if n < 0 then 2 else if n > most ∨ n > 65536 then 6 else 0
def inSize (s : ByteArray) (e most : Int) : Int × ByteArray × Int :=
  if (inInt s e).2.2 = 0 then (if sizeErr (inInt s e).1 most = 0 then (inInt s e).1 else 0, (inInt s e).2.1, sizeErr (inInt s e).1 most) else (0, (inInt s e).2.1, (inInt s e).2.2)
theorem inSize_ok (s : ByteArray) (e most : Int) (h : (inSize s e most).2.2 = 0) : 0 ≤ (inSize s e most).1 ∧ (inSize s e most).1 ≤ 65536 ∧ (inSize s e most).1 ≤ most := by
  unfold inSize at h ⊢
  split at h
  · rename_i h1
    have h' : sizeErr (inInt s e).1 most = 0 := h
    rw [if_pos h1]
    show 0 ≤ (if sizeErr (inInt s e).1 most = 0 then (inInt s e).1 else 0) ∧ (if sizeErr (inInt s e).1 most = 0 then (inInt s e).1 else 0) ≤ 65536 ∧ (if sizeErr (inInt s e).1 most = 0 then (inInt s e).1 else 0) ≤ most
    rw [if_pos h']
    unfold sizeErr at h'
    split at h'
    · omega
    · split at h' <;> omega
  · rename_i h1
    exact absurd h h1
theorem inSize_err (s : ByteArray) (e most : Int) (h : (inSize s e most).2.2 ≠ 0) : (inSize s e most).1 = 0 := by
  unfold inSize at h ⊢
  split
  · rename_i h1
    rw [if_pos h1] at h
    exact if_neg h
  · rfl
theorem inSize_size (s : ByteArray) (e most : Int) : (inSize s e most).2.1.size ≤ s.size := by
  unfold inSize
  have := inInt_size s e
  split <;> exact this
theorem In_size_eq (s : ByteArray) (e most : Int) (k : Nat) (hk : 1 ≤ k) : octets_In_size.f k s e most = some (inSize s e most) := by
  obtain ⟨k, rfl⟩ : ∃ j, k = j + 1 := ⟨k - 1, by omega⟩
  unfold octets_In_size.f
  rw [In_Int_eq, Option.bind_some]
  have herr := inInt_err s e
  unfold inSize
  generalize inInt s e = r at herr ⊢
  obtain ⟨n, s1, e1⟩ := r
  simp only at herr ⊢
  unfold octets_In_fail.f octets_In_ready.f
  by_cases h1 : e1 = 0
  · subst h1
    simp only [if_true, Option.bind_some]
    by_cases h2 : n < 0
    · have : sizeErr n most = 2 := by unfold sizeErr; rw [if_pos h2]
      rw [if_pos h2, this]
      simp
    · rw [if_neg h2]
      by_cases h3 : n > most
      · have : sizeErr n most = 6 := by unfold sizeErr; rw [if_neg h2, if_pos (.inl h3)]
        rw [if_pos h3, this]
        simp [octets_In_size.j0, octets_In_fail.f, octets_In_ready.f]
      · rw [if_neg h3]
        by_cases h4 : n > 65536
        · have : sizeErr n most = 6 := by unfold sizeErr; rw [if_neg h2, if_pos (.inr h4)]
          have hd : decide (n > 65536) = true := by simp; omega
          rw [this, hd]
          simp [octets_In_size.j0, octets_In_fail.f, octets_In_ready.f]
        · have : sizeErr n most = 0 := by unfold sizeErr; rw [if_neg h2, if_neg (by omega)]
          have hd : decide (n > 65536) = false := by simp; omega
          rw [this, hd]
          simp [octets_In_size.j0, octets_In_fail.f, octets_In_ready.f]
  · have hn : n = 0 := herr h1
    subst hn
    have hb : (e1 == 0) = false := by rw [beq_eq_false_iff_ne]; exact h1
    rw [if_neg (by omega), if_neg h1]
    by_cases h3 : (0 : Int) > most
    · rw [if_pos h3]
      simp [octets_In_size.j0, octets_In_fail.f, octets_In_ready.f, h1, hb]
    · rw [if_neg h3]
      simp [octets_In_size.j0, octets_In_fail.f, octets_In_ready.f, h1, hb]
theorem ref_Size_eq (s : ByteArray) (e most : Int) (hs : s.size ≤ 140737488355328) (k : Nat) (hk : 30 ≤ k) : primerref01_Size.f k s e most = some (inSize s e most) := by
  obtain ⟨k, rfl⟩ : ∃ j, k = j + 1 + 1 + 1 := ⟨k - 3, by omega⟩
  unfold primerref01_Size.f
  rw [ref_Int_eq s e hs _ (by omega), Option.bind_some]
  have herr := inInt_err s e
  unfold inSize
  generalize inInt s e = r at herr ⊢
  obtain ⟨n, s1, e1⟩ := r
  simp only at herr ⊢
  by_cases h1 : e1 = 0
  · subst h1
    simp only [if_true]
    by_cases h2 : n < 0
    · have : sizeErr n most = 2 := by unfold sizeErr; rw [if_pos h2]
      have hd : decide (n < 0) = true := by simp; omega
      rw [this, hd]
      simp [primerref01_Size.j0, primerref01_Size.j1, primerref01_Size.j2]
    · have hd : decide (n < 0) = false := by simp; omega
      rw [hd]
      by_cases h3 : n > most
      · have : sizeErr n most = 6 := by unfold sizeErr; rw [if_neg h2, if_pos (.inl h3)]
        rw [this]
        simp [primerref01_Size.j0, primerref01_Size.j1, primerref01_Size.j2, h3]
      · by_cases h4 : n > 65536
        · have : sizeErr n most = 6 := by unfold sizeErr; rw [if_neg h2, if_pos (.inr h4)]
          rw [this]
          simp [primerref01_Size.j0, primerref01_Size.j1, primerref01_Size.j2, h3, h4]
        · have : sizeErr n most = 0 := by unfold sizeErr; rw [if_neg h2, if_neg (by omega)]
          rw [this]
          simp [primerref01_Size.j0, primerref01_Size.j1, primerref01_Size.j2, h3, h4]
  · rw [if_neg h1, if_neg h1]
    simp [primerref01_Size.j0, primerref01_Size.j1, primerref01_Size.j2, h1]
def inText (s : ByteArray) (e : Int) : ByteArray × ByteArray × Int :=
  if (inSize s e 65536).2.2 = 0 then
    (if (inSize s e 65536).1 > ((inSize s e 65536).2.1.size : Int) then ((⟨#[]⟩ : ByteArray), (inSize s e 65536).2.1, 3)
     else ((inSize s e 65536).2.1.extract 0 (inSize s e 65536).1.toNat, (inSize s e 65536).2.1.extract (inSize s e 65536).1.toNat (inSize s e 65536).2.1.size, 0))
  else ((⟨#[]⟩ : ByteArray), (inSize s e 65536).2.1, (inSize s e 65536).2.2)
theorem inSize_stop (s : ByteArray) (e most : Int) (h : e ≠ 0) : inSize s e most = (0, s, e) := by
  have : inInt s e = (0, s, e) := by unfold inInt; rw [if_neg h]
  unfold inSize
  rw [this, if_neg h]
theorem inText_stop (s : ByteArray) (e : Int) (h : e ≠ 0) : inText s e = (⟨#[]⟩, s, e) := by
  unfold inText
  rw [inSize_stop s e _ h, if_neg h]
theorem inText_size (s : ByteArray) (e : Int) : (inText s e).2.1.size ≤ s.size ∧ (inText s e).1.size ≤ 65536 := by
  have h := inSize_size s e 65536
  have h0 := inSize_ok s e 65536
  unfold inText
  split
  · rename_i h1
    have := h0 h1
    split
    · exact ⟨h, Nat.zero_le _⟩
    · refine ⟨?_, ?_⟩
      · show ((inSize s e 65536).2.1.extract _ (inSize s e 65536).2.1.size).size ≤ _
        rw [ext_size]; omega
      · show ((inSize s e 65536).2.1.extract 0 _).size ≤ _
        rw [ext0_size _ _ (by omega)]; omega
  · exact ⟨h, Nat.zero_le _⟩
theorem In_Text_eq (s : ByteArray) (e : Int) (k : Nat) (hk : 1 ≤ k) : octets_In_Text.f k s e = some (inText s e) := by
  unfold octets_In_Text.f octets_In_ready.f
  simp only [Option.bind_some]
  by_cases h : e = 0
  · subst h
    simp only [beq_self_eq_true, if_true]
    rw [In_size_eq s 0 65536 k hk, Option.bind_some]
    obtain ⟨k, rfl⟩ : ∃ j, k = j + 1 := ⟨k - 1, by omega⟩
    have h0 := inSize_ok s 0 65536
    have hsz := inSize_size s 0 65536
    unfold inText
    generalize inSize s 0 65536 = r at h0 hsz ⊢
    obtain ⟨n, s1, e1⟩ := r
    simp only at h0 hsz ⊢
    simp only [octets_In_Text.j0, octets_In_ready.f, octets_In_fail.f, Option.bind_some]
    by_cases h1 : e1 = 0
    · subst h1
      have := h0 rfl
      simp only [beq_self_eq_true, if_true, Option.bind_some]
      by_cases h2 : n > (s1.size : Int)
      · rw [if_pos h2, if_pos h2]
      · rw [if_neg h2, if_neg h2, if_pos (by omega), if_pos (by omega)]
    · have hb : (e1 == 0) = false := by rw [beq_eq_false_iff_ne]; exact h1
      simp [hb, h1]
  · have hb : (e == 0) = false := by rw [beq_eq_false_iff_ne]; exact h
    obtain ⟨k, rfl⟩ : ∃ j, k = j + 1 := ⟨k - 1, by omega⟩
    rw [inText_stop s e h]
    simp [octets_In_Text.j0, octets_In_ready.f, octets_In_fail.f, hb]
theorem ref_Text_eq (s : ByteArray) (e : Int) (hs : s.size ≤ 140737488355328) (k : Nat) (hk : 31 ≤ k) : primerref01_Text.f k s e = some (inText s e) := by
  obtain ⟨k, rfl⟩ : ∃ j, k = j + 1 := ⟨k - 1, by omega⟩
  unfold primerref01_Text.f
  rw [ref_Size_eq s e 65536 hs _ (by omega), Option.bind_some]
  have h0 := inSize_ok s e 65536
  unfold inText
  generalize inSize s e 65536 = r at h0 ⊢
  obtain ⟨n, s1, e1⟩ := r
  simp only at h0 ⊢
  by_cases h1 : e1 = 0
  · subst h1
    have := h0 rfl
    simp only [if_true]
    by_cases h2 : n > (s1.size : Int)
    · have hd : decide (n > (s1.size : Int)) = true := by simp; omega
      rw [if_pos h2, hd]
      simp [primerref01_Text.j0]
    · have hd : decide (n > (s1.size : Int)) = false := by simp; omega
      rw [if_neg h2, hd]
      simp only [primerref01_Text.j0, Bool.false_eq_true, if_false, if_true]
      rw [if_pos (by omega), if_pos (by omega)]
  · rw [if_neg h1, if_neg h1]
    simp [primerref01_Text.j0, h1]
/-- So many of them, one behind the other; none where one fails. -/
def seqL {α : Type} (f : ByteArray → α × ByteArray × Int) : Nat → ByteArray → List α × ByteArray × Int
  | 0, s => ([], s, 0)
  | n + 1, s =>
    if (f s).2.2 = 0 then
      (if (seqL f n (f s).2.1).2.2 = 0 then ((f s).1 :: (seqL f n (f s).2.1).1, (seqL f n (f s).2.1).2.1, 0) else ([], (seqL f n (f s).2.1).2.1, (seqL f n (f s).2.1).2.2))
    else ([], (f s).2.1, (f s).2.2)
def inSeq {α : Type} (f : ByteArray → α × ByteArray × Int) (s : ByteArray) (e most : Int) : List α × ByteArray × Int :=
  if (inSize s e most).2.2 = 0 then seqL f (inSize s e most).1.toNat (inSize s e most).2.1 else ([], (inSize s e most).2.1, (inSize s e most).2.2)
def inTexts (s : ByteArray) (e most : Int) : List ByteArray × ByteArray × Int := inSeq (fun s => inText s 0) s e most
theorem seqL_len {α : Type} (f : ByteArray → α × ByteArray × Int) (n : Nat) (s : ByteArray) : (seqL f n s).1.length ≤ n := by
  induction n generalizing s with
  | zero => simp [seqL]
  | succ n ih =>
    simp only [seqL]
    split
    · split
      · simp; exact ih _
      · simp
    · simp
theorem seqL_size {α : Type} (f : ByteArray → α × ByteArray × Int) (hf : ∀ s, (f s).2.1.size ≤ s.size) (n : Nat) (s : ByteArray) : (seqL f n s).2.1.size ≤ s.size := by
  induction n generalizing s with
  | zero => simp [seqL]
  | succ n ih =>
    have h1 := hf s
    have h2 := ih (f s).2.1
    simp only [seqL]
    split
    · split
      · show (seqL f n (f s).2.1).2.1.size ≤ _; omega
      · show (seqL f n (f s).2.1).2.1.size ≤ _; omega
    · exact h1
theorem seqL_err {α : Type} (f : ByteArray → α × ByteArray × Int) (n : Nat) (s : ByteArray) (h : (seqL f n s).2.2 ≠ 0) : (seqL f n s).1 = [] := by
  cases n with
  | zero => exact absurd rfl h
  | succ n =>
    simp only [seqL] at h ⊢
    split
    · rename_i h2
      rw [if_pos h2] at h
      split
      · rename_i h3; rw [if_pos h3] at h; exact absurd rfl h
      · rfl
    · rfl
/-- What a loop that gathers has told at its end. -/
def gath {α : Type} (f : ByteArray → α × ByteArray × Int) (acc : List α) (r : Nat) (s : ByteArray) : List α × ByteArray × Int :=
  (if (seqL f r s).2.2 = 0 then acc ++ (seqL f r s).1 else [], (seqL f r s).2.1, (seqL f r s).2.2)
theorem gath_zero {α : Type} (f : ByteArray → α × ByteArray × Int) (acc : List α) (s : ByteArray) : gath f acc 0 s = (acc, s, 0) := by simp [gath, seqL]
theorem gath_ok {α : Type} (f : ByteArray → α × ByteArray × Int) (acc : List α) (r : Nat) (s : ByteArray) (h : (f s).2.2 = 0) : gath f acc (r + 1) s = gath f (acc ++ [(f s).1]) r (f s).2.1 := by
  unfold gath
  simp only [seqL, h, if_true]
  by_cases hh : (seqL f r (f s).2.1).2.2 = 0
  · simp [hh]
  · simp [hh]
theorem gath_bad {α : Type} (f : ByteArray → α × ByteArray × Int) (acc : List α) (r : Nat) (s : ByteArray) (h : (f s).2.2 ≠ 0) : gath f acc (r + 1) s = ([], (f s).2.1, (f s).2.2) := by
  unfold gath
  simp [seqL, h]
theorem gath_all {α : Type} (f : ByteArray → α × ByteArray × Int) (r : Nat) (s : ByteArray) : gath f [] r s = seqL f r s := by
  unfold gath
  by_cases h : (seqL f r s).2.2 = 0
  · rw [if_pos h]; rfl
  · rw [if_neg h]
    have := seqL_err f r s h
    rw [← this]
theorem inSeq_stop {α : Type} (f : ByteArray → α × ByteArray × Int) (s : ByteArray) (e most : Int) (h : e ≠ 0) : inSeq f s e most = ([], s, e) := by
  unfold inSeq
  rw [inSize_stop s e _ h, if_neg h]
theorem In_Texts_l0 (r : Nat) : ∀ (k : Nat) (acc : List ByteArray) (n i : Int) (s : ByteArray), 0 ≤ i → i + r = n → n ≤ 65536 → acc.length + r ≤ 65536 → r + 1 < k →
    octets_In_Texts.l0 k acc n i s 0 = some (gath (fun s => inText s 0) acc r s) := by
  induction r with
  | zero =>
    intro k acc n i s h0 h1 h2 h3 hk
    obtain ⟨k, rfl⟩ : ∃ j, k = j + 1 := ⟨k - 1, by omega⟩
    simp only [octets_In_Texts.l0]
    rw [if_neg (by omega), gath_zero]
  | succ r ih =>
    intro k acc n i s h0 h1 h2 h3 hk
    obtain ⟨k, rfl⟩ : ∃ j, k = j + 1 := ⟨k - 1, by omega⟩
    simp only [octets_In_Texts.l0]
    rw [if_pos (by omega), In_Text_eq _ _ _ (by omega), Option.bind_some, if_pos (by omega)]
    unfold octets_In_ready.f
    simp only [Option.bind_some]
    by_cases h : (inText s 0).2.2 = 0
    · rw [gath_ok _ _ _ _ h, h, w64 _ (by omega) (by omega)]
      simp only [beq_self_eq_true, if_true]
      exact ih k _ n (i + 1) _ (by omega) (by omega) h2 (by simp; omega) (by omega)
    · have hb : ((inText s 0).2.2 == 0) = false := by rw [beq_eq_false_iff_ne]; exact h
      rw [gath_bad _ _ _ _ h, hb]
      rfl
theorem In_Texts_eq (s : ByteArray) (e most : Int) (k : Nat) (hk : 65539 ≤ k) : octets_In_Texts.f k s e most = some (inTexts s e most) := by
  unfold octets_In_Texts.f octets_In_ready.f inTexts
  simp only [Option.bind_some]
  by_cases h : e = 0
  · subst h
    simp only [beq_self_eq_true, if_true]
    rw [In_size_eq s 0 most k (by omega), Option.bind_some]
    unfold inSeq
    by_cases h1 : (inSize s 0 most).2.2 = 0
    · have := inSize_ok s 0 most h1
      rw [if_pos h1, h1, In_Texts_l0 (inSize s 0 most).1.toNat k [] _ 0 _ (by omega) (by omega) (by omega) (by simp; omega) (by omega), gath_all]
    · have hz := inSize_err s 0 most h1
      rw [if_neg h1, hz]
      obtain ⟨k, rfl⟩ : ∃ j, k = j + 1 := ⟨k - 1, by omega⟩
      simp [octets_In_Texts.l0]
  · have hb : (e == 0) = false := by rw [beq_eq_false_iff_ne]; exact h
    rw [hb, inSeq_stop _ s e most h]
    rfl
theorem ref_Texts_stop (k : Nat) (hk : 1 ≤ k) (n : Int) (acc : List ByteArray) (i : Int) (s : ByteArray) (e : Int) (h : e ≠ 0) : primerref01_Texts.l0 k n acc i s e = some ([], s, e) := by
  obtain ⟨k, rfl⟩ : ∃ j, k = j + 1 := ⟨k - 1, by omega⟩
  simp only [primerref01_Texts.l0]
  by_cases hi : i < n
  · rw [if_pos hi, if_neg h]
  · rw [if_neg hi, if_neg h]
theorem ref_Texts_l0 (r : Nat) : ∀ (k : Nat) (acc : List ByteArray) (n i : Int) (s : ByteArray), s.size ≤ 140737488355328 → 0 ≤ i → i + r = n → n ≤ 65536 → acc.length + r ≤ 65536 → r + 33 < k →
    primerref01_Texts.l0 k n acc i s 0 = some (gath (fun s => inText s 0) acc r s) := by
  induction r with
  | zero =>
    intro k acc n i s hs h0 h1 h2 h3 hk
    obtain ⟨k, rfl⟩ : ∃ j, k = j + 1 := ⟨k - 1, by omega⟩
    simp only [primerref01_Texts.l0]
    rw [if_neg (by omega), if_pos trivial, gath_zero]
  | succ r ih =>
    intro k acc n i s hs h0 h1 h2 h3 hk
    obtain ⟨k, rfl⟩ : ∃ j, k = j + 1 := ⟨k - 1, by omega⟩
    simp only [primerref01_Texts.l0]
    rw [if_pos (by omega), if_pos trivial, ref_Text_eq s 0 hs k (by omega), Option.bind_some, if_pos (by omega), w64 _ (by omega) (by omega)]
    have hsz := (inText_size s 0).1
    by_cases h : (inText s 0).2.2 = 0
    · rw [gath_ok _ _ _ _ h, h]
      exact ih k _ n (i + 1) _ (by omega) (by omega) (by omega) h2 (by simp; omega) (by omega)
    · rw [gath_bad _ _ _ _ h, ref_Texts_stop k (by omega) _ _ _ _ _ h]
theorem ref_Texts_eq (s : ByteArray) (e most : Int) (hs : s.size ≤ 140737488355328) (k : Nat) (hk : 65575 ≤ k) : primerref01_Texts.f k s e most = some (inTexts s e most) := by
  unfold primerref01_Texts.f inTexts
  rw [ref_Size_eq s e most hs k (by omega), Option.bind_some]
  unfold inSeq
  have hz := inSize_size s e most
  by_cases h1 : (inSize s e most).2.2 = 0
  · have := inSize_ok s e most h1
    rw [if_pos h1, h1, ref_Texts_l0 (inSize s e most).1.toNat k [] _ 0 _ (by omega) (by omega) (by omega) (by omega) (by simp; omega) (by omega), gath_all]
  · rw [if_neg h1, ref_Texts_stop k (by omega) _ _ _ _ _ h1]
def inEnd (s : ByteArray) (e : Int) : Int := if e = 0 then (if s.size = 0 then 0 else 4) else e
theorem inSeq_size {α : Type} (f : ByteArray → α × ByteArray × Int) (hf : ∀ s, (f s).2.1.size ≤ s.size) (s : ByteArray) (e most : Int) : (inSeq f s e most).2.1.size ≤ s.size := by
  unfold inSeq
  have h1 := inSize_size s e most
  split
  · have := seqL_size f hf (inSize s e most).1.toNat (inSize s e most).2.1
    omega
  · exact h1
theorem inTexts_size (s : ByteArray) (e most : Int) : (inTexts s e most).2.1.size ≤ s.size := inSeq_size _ (fun s => (inText_size s 0).1) s e most
theorem inSeq_len {α : Type} (f : ByteArray → α × ByteArray × Int) (s : ByteArray) (e most : Int) : (inSeq f s e most).1.length ≤ 65536 := by
  unfold inSeq
  split
  · rename_i h
    have h1 := inSize_ok s e most h
    have := seqL_len f (inSize s e most).1.toNat (inSize s e most).2.1
    omega
  · exact Nat.zero_le _
end Go.Proofs.Ytnajmemcdipknaa.PK
namespace Go.Proofs.Ytnajmemcdipknaa.PK
open Go.RowKit Go.Proofs.YtnajmemcdipknaaW.PrintWords Go.Proofs.YtnajmemcdipknaaW.PrintLast Go.Proofs.YtnajmemcdipknaaW.PrintMore
set_option linter.unusedVariables false
set_option linter.unusedSimpArgs false
set_option maxRecDepth 100000
theorem C_str {w : World} {A : Option Addr} {n : Nat} {xs : List ByteArray} (h : Kd.C Kd.string w A n xs) (t : Nat) (ht : t < xs.length) : ∃ ad, A = some ad ∧ w.cell? (ad.add t) = some (.string xs[t]) := by
  obtain ⟨hl, _, hc⟩ := h
  obtain ⟨ad, rfl, hcell⟩ := hc (by omega)
  obtain ⟨cs, _, hcs, hcc⟩ := hcell t xs[t] (List.getElem?_eq_getElem ht)
  have hcs : cs = [.string xs[t]] := hcs
  subst hcs
  refine ⟨ad, rfl, ?_⟩
  have := hcc 0 (.string xs[t]) rfl
  have e : t * Kd.string.sz + 0 = t := by show t * 1 + 0 = t; omega
  rwa [e] at this
theorem err_quiet (g : Nat) (f0 : ByteArray) (f1 : Int) (W : World) (h : W.heap[g]? = some (.cells #[.string f0, .int .i64 f1] 153 (0, 0))) :
    Calls Try.prog 56 #[.pointer (some ⟨g, 0, none⟩)] W fun e w' => e = .returned (.int .i64 f1) ∧ w' = W := by
  have h1 : W.cell? ⟨g, 1, none⟩ = some (.int .i64 f1) := (blk_cell h 1).trans rfl
  clear h
  go_enter Try.func56, Try.ntmps56
  go_wp2
  go_ret
  exact ⟨rfl, rfl⟩
theorem end_quiet (g : Nat) (f0 : ByteArray) (f1 : Int) (W : World) (h : W.heap[g]? = some (.cells #[.string f0, .int .i64 f1] 153 (0, 0))) :
    Calls Try.prog 57 #[.pointer (some ⟨g, 0, none⟩)] W fun e w' => e = .returned (.int .i64 (inEnd f0 f1)) ∧ w' = W := by
  have h0 : W.cell? ⟨g, 0, none⟩ = some (.string f0) := (blk_cell h 0).trans rfl
  have HH := Aside0.mk h
  clear h
  by_cases he : f1 = 0
  · subst he
    by_cases hs : f0.size = 0
    · have hl : (f0.toList == ([] : List UInt8)) = true := by rw [beq_iff_eq]; exact (toList_nil_iff f0).mpr hs
      have hl2 : f0.toList.isEmpty = true := by rw [(toList_nil_iff f0).mpr hs]; rfl
      have e : inEnd f0 0 = 0 := by unfold inEnd; rw [if_pos rfl, if_pos hs]
      rw [e]
      clear e
      go_enter Try.func57, Try.ntmps57
      go_wp2_with (go_at_call 56; refine (err_quiet g f0 0 _ HH.out).mono ?_; rintro e w' ⟨rfl, rfl⟩)
      go_ret
      exact ⟨rfl, rfl⟩
    · have hl : (f0.toList == ([] : List UInt8)) = false := by rw [beq_eq_false_iff_ne]; exact fun h => hs ((toList_nil_iff f0).mp h)
      have hl2 : f0.toList.isEmpty = false := by
        cases hc : f0.toList with
        | nil => exact absurd ((toList_nil_iff f0).mp hc) hs
        | cons a b => rfl
      have e : inEnd f0 0 = 4 := by unfold inEnd; rw [if_pos rfl, if_neg hs]
      rw [e]
      clear e
      go_enter Try.func57, Try.ntmps57
      go_wp2_with (go_at_call 56; refine (err_quiet g f0 0 _ HH.out).mono ?_; rintro e w' ⟨rfl, rfl⟩)
      go_ret
      exact ⟨rfl, rfl⟩
  · have he2 : (f1 != 0) = true := by rw [bne_iff_ne]; exact he
    have e : inEnd f0 f1 = f1 := by unfold inEnd; rw [if_neg he]
    rw [e]
    clear e
    go_enter Try.func57, Try.ntmps57
    go_wp2_with (go_at_call 56; refine (err_quiet g f0 f1 _ HH.out).mono ?_; rintro e w' ⟨rfl, rfl⟩)
    go_ret
    exact ⟨rfl, rfl⟩
/-- An Out stays, where another row is written. -/
theorem OutB.grown {w w1 : World} {b o : Nat} {T : TypeId} {cs : Array Value} {base : Nat} {l : List Int} {bad : Bool} (h : OutB w b o T cs base l bad) {row : Option Nat} (hg : w.grownBy w1 row) {e : TypeId} {v : Value} {n bs sz : Nat} {ys : List Value}
    (hr : row = v.ownBlock) (ho : w.ownsRow bs e sz v n ys) (he : e ≠ 5) (heT : e ≠ T) : OutB w1 b o T cs base l bad := by
  obtain ⟨v0, h1, h2, h3, h4⟩ := h
  subst hr
  refine ⟨v0, h1, (hg.block b h2.lt (fun h => own_blk_ne ho h2 heT h.symm)).trans h2, own_move h3 (fun k hk => hg.block k (own_lt h3 k hk) (fun h => ?_)), h4⟩
  obtain ⟨c1, hc1⟩ := own_typed h3 k hk
  obtain ⟨c2, hc2⟩ := own_typed ho k h.symm
  rw [hc1] at hc2
  injection hc2 with hc2
  injection hc2 with _ hc2
  exact he hc2.symm
/-- A row of another type stays, where an Out is written. -/
theorem OutK.own {w w1 : World} {b base : Nat} (hk : OutK w w1 b base) {T : TypeId} {cs : Array Value} (hb : Blk w b T cs) {e : TypeId} {v : Value} {n bs sz : Nat} {ys : List Value} (ho : w.ownsRow bs e sz v n ys) (he : e ≠ 5) (heT : e ≠ T) : w1.ownsRow bs e sz v n ys := by
  refine own_move ho (fun k hk' => ?_)
  obtain ⟨c2, hc2⟩ := own_typed ho k hk'
  exact hk.typ k c2 e (0, 0) (fun h => own_blk_ne ho hb heT (by rw [← h]; exact hk')) he hc2
theorem OutB.blk {w : World} {b o : Nat} {T : TypeId} {cs : Array Value} {base : Nat} {l : List Int} {bad : Bool} (h : OutB w b o T cs base l bad) : ∃ cs', Blk w b T cs' := by
  obtain ⟨v0, h1, h2, _⟩ := h
  exact ⟨_, h2⟩
theorem own_len {w : World} {b e sz n n' : Nat} {v : Value} {xs : List Value} (h : w.ownsRow b e sz v n xs) (hn : n = n') : w.ownsRow b e sz v n' xs := hn ▸ h
end Go.Proofs.Ytnajmemcdipknaa.PK
namespace Go.Proofs.Ytnajmemcdipknaa.PK
open Go.RowKit Go.Proofs.YtnajmemcdipknaaW.PrintWords Go.Proofs.YtnajmemcdipknaaW.PrintLast Go.Proofs.YtnajmemcdipknaaW.PrintMore
set_option linter.unusedVariables false
set_option linter.unusedSimpArgs false
set_option maxRecDepth 100000
/-- A call of a function that has a body enters it. -/
theorem enter_of {P : Program} {f : FuncId} {fn : Func} {c : Code} (hf : P.funcs[f]? = some fn) (hname : (fn.name == "runtime.NumGoroutine") = false) (hb : fn.body = some c) (args : Array Value) (w : World) : (callFunc f args).run P w = .ok (.enter f args) w := by
  have h1 : fn.name ≠ "runtime.NumGoroutine" := by simpa using hname
  simp [callFunc, hf, h1, hb]
theorem good1_calls (s : ByteArray) (w : World) : Calls Try.prog 47 #[.string s] w fun e w' => e = .returned (.bool (decide (16 < s.size))) ∧ w' = w := by
  go_enter Try.func47, Try.ntmps47
  have e : decide ((16 : Int) < (s.size : Int)) = decide (16 < s.size) := by rw [decide_eq_decide]; omega
  go_wp2
  go_ret
  rw [← e]
  exact ⟨rfl, rfl⟩
theorem index_calls (F : Nat) (he : ∀ args w, (callFunc F args).run Try.prog w = .ok (.enter F args) w) (p : ByteArray → Bool) (hf : ∀ s w, Calls Try.prog F #[.string s] w fun e w' => e = .returned (.bool (p s)) ∧ w' = w) (A : Option Addr) (c : Nat) (xs : List ByteArray) (w : World) (hr : Kd.C Kd.string w A xs.length xs) :
    Calls Try.prog 95 #[.slice A xs.length c, .func (.func F) #[] #[]] w fun e w' => (∃ r, e = .returned (.int .i64 r) ∧ decide (0 ≤ r) = xs.any p) ∧ w' = w := by
  have HR := Aside0.mk hr
  have HF := Aside0.mk hf
  clear hr hf
  go_enter Try.func95, Try.ntmps95
  go_wp2_with fail
  go_loopw [5, 8] (fun _ i wr => ∃ j : Nat, j ≤ xs.length ∧ i = .int .i64 j ∧ Aside0 (xs.any p = (xs.drop j).any p) ∧ wr = w) (fun _ i _ => xs.length - (intOf i).toNat)
  case atStart => exact ⟨0, Nat.zero_le _, rfl, ⟨rfl⟩, rfl⟩
  case round =>
    obtain ⟨j, hj, rfl, hany, rfl⟩ := hrel
    by_cases hjn : j < xs.length
    · have hmx := HR.out.2.1
      obtain ⟨ad, rfl, hcell⟩ := C_str HR.out j hjn
      have hd : decide ((j : Int) < (xs.length : Int)) = true := by simp; omega
      obtain ⟨x, hx⟩ : ∃ x, xs[j] = x := ⟨_, rfl⟩
      have hs : (xs.drop j).any p = (p x || (xs.drop (j + 1)).any p) := by rw [List.drop_eq_getElem_cons hjn, List.any_cons, hx]
      rw [hx] at hcell
      have HS := Aside0.mk hs
      clear hs hx
      cases hp : p x
      · have HP := Aside0.mk hp
        clear hp
        go_wp2_with fail
        refine (HF.out x _).mono ?_
        rintro e w2 ⟨rfl, rfl⟩
        rw [HP.out]
        go_wp2_with fail
        go_roundw
        case rel => exact ⟨j + 1, by omega, by go_num, ⟨by rw [hany.out, HS.out, HP.out]; rfl⟩, trivial⟩
        case measure => simp [intOf]; omega
      · have HP := Aside0.mk hp
        clear hp
        go_wp2_with fail
        refine (HF.out x _).mono ?_
        rintro e w2 ⟨rfl, rfl⟩
        rw [HP.out]
        go_wp2
        go_ret
        exact ⟨⟨_, rfl, by rw [hany.out, HS.out, HP.out]; simp⟩, rfl⟩
    · obtain rfl : xs.length = j := by omega
      have hd : decide ((xs.length : Int) < (xs.length : Int)) = false := by simp
      go_wp2
      go_ret
      refine ⟨⟨_, rfl, ?_⟩, rfl⟩
      rw [hany.out, List.drop_length]
      rfl
theorem good1_enter (args : Array Value) (w : World) : (callFunc 47 args).run Try.prog w = .ok (.enter 47 args) w := enter_of Try.func47 (by kernel_rfl) rfl _ _
theorem contains_calls (F : Nat) (he : ∀ args w, (callFunc F args).run Try.prog w = .ok (.enter F args) w) (p : ByteArray → Bool) (hf : ∀ s w, Calls Try.prog F #[.string s] w fun e w' => e = .returned (.bool (p s)) ∧ w' = w) (A : Option Addr) (c : Nat) (xs : List ByteArray) (w : World) (hr : Kd.C Kd.string w A xs.length xs) :
    Calls Try.prog 46 #[.slice A xs.length c, .func (.func F) #[] #[]] w fun e w' => e = .returned (.bool (xs.any p)) ∧ w' = w := by
  have HR := Aside0.mk hr
  have HF := Aside0.mk hf
  clear hr hf
  go_enter Try.func46, Try.ntmps46
  go_wp2_with fail
  refine (index_calls F he p HF.out A c xs w HR.out).mono ?_
  rintro e w2 ⟨⟨r, rfl, hr⟩, rfl⟩
  have HQ := Aside0.mk hr
  clear hr
  go_wp2
  go_ret
  exact ⟨by first | (rw [← HQ.out]; done) | (rw [← HQ.out]; rfl) | (simp [← HQ.out]), rfl⟩
end Go.Proofs.Ytnajmemcdipknaa.PK
namespace Go.Proofs.Ytnajmemcdipknaa.PC
open Go.RowKit Go.Proofs.YtnajmemcdipknaaW.PrintWords Go.Proofs.YtnajmemcdipknaaW.PrintLast Go.Proofs.YtnajmemcdipknaaW.PrintMore
attribute [local go_sem] max2_int min2_int max_two min_two max_three min_three max_four min_four   -- for this text's walks alone
set_option linter.unusedVariables false
set_option linter.unusedSimpArgs false



def errW : Option Int → Value
  | none => .nilIface
  | some c => .iface 0 (.int .i64 c)
theorem errW_none : errW none = .nilIface := rfl
theorem errW_some (c : Int) : errW (some c) = .iface 0 (.int .i64 c) := rfl

-- the values' own types

end Go.Proofs.Ytnajmemcdipknaa.PC
