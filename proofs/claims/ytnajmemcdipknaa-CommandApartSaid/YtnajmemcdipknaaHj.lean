/- The document's Good for a command, the walk. Condition: the numbers are numbers of 64 bits.
The document's Put for a command, the walk. Condition: the numbers are numbers of 64 bits.
Reading a command, in plain words, and what a reader's walk carries. Condition: none. -/
import Derived.Test.YtnajmemcdipknaaHi
import Derived.Test.YtnajmemcdipknaaHg
import Derived.Deep.RegionHeld3
import Derived.Test.YtnajmemcdipknaaHf
namespace Go.Proofs.Ytnajmemcdipknaa.PK
open Go.RowKit Go.Proofs.YtnajmemcdipknaaW.PrintWords Go.Proofs.YtnajmemcdipknaaW.PrintLast Go.Proofs.YtnajmemcdipknaaW.PrintMore
open Go.ChangeShapes Go.WideShapes
set_option linter.unusedVariables false
set_option linter.unusedSimpArgs false
set_option maxRecDepth 100000
theorem isEmpty_false {s : ByteArray} (h : ¬ s.size = 0) : s.toList.isEmpty = false := by
  cases hc : s.toList with
  | nil => exact absurd ((toList_nil_iff s).mp hc) h
  | cons a b => rfl
def preC (k : Int) (who nm ot tx : ByteArray) (wd : List ByteArray) : Bool := decide (1 ≤ k) && decide (k ≤ 18) && nameOk who && (decide (nm.size = 0) || nameOk nm) && (decide (ot.size = 0) || nameOk ot) && decide (tx.size ≤ 65536) && decide (wd.length ≤ 64)
theorem goodC_pre (k : Int) (who nm ot tx : ByteArray) (wd : List ByteArray) (a b c d : Int) : goodC k who nm ot tx wd a b c d = (preC k who nm ot tx wd && (!(wd.any fun s => decide (16 < s.size))) && fitsN a && fitsN b && fitsN c && fitsN d) := rfl
set_option maxHeartbeats 6400000 in
theorem rGood_calls (k : Int) (who nm ot tx : ByteArray) (A : Option Addr) (cap : Nat) (wd : List ByteArray) (a b c d : Int) (w : World) (hs1 : who.size ≤ 9223372036854775807) (hs2 : nm.size ≤ 9223372036854775807) (hs3 : ot.size ≤ 9223372036854775807) (hr : Kd.C Kd.string w A wd.length wd) (hc : wd.length ≤ cap) (hna : -9223372036854775808 ≤ a ∧ a ≤ 9223372036854775807) (hnb : -9223372036854775808 ≤ b ∧ b ≤ 9223372036854775807) (hnc : -9223372036854775808 ≤ c ∧ c ≤ 9223372036854775807) (hnd : -9223372036854775808 ≤ d ∧ d ≤ 9223372036854775807) :
    Calls Try.prog 16 #[.agg #[.int .i64 k, .string who, .string nm, .string ot, .string tx, .slice A wd.length cap, .int .i64 a, .int .i64 b, .int .i64 c, .int .i64 d]] w fun e w' => e = .returned (.bool (goodC k who nm ot tx wd a b c d)) ∧ Below w.heap.size w w' := by
  have hu := Try.underlying29
  have HR := Aside0.mk hr
  have HC := Aside0.mk hc
  clear hr hc
  have HB := Aside0.mk (Below.refl w.heap.size w)
  have BX1 := Aside0.mk (heap_alloc_new w (.cells #[.int .i64 k, .string who, .string nm, .string ot, .string tx, .slice A wd.length cap, .int .i64 a, .int .i64 b, .int .i64 c, .int .i64 d] 29))
  have hpre := goodC_pre k who nm ot tx wd a b c d
  have HPRE := Aside0.mk hpre
  clear hpre
  go_enter Try.func16, Try.ntmps16
  go_upto_region 1 with (fail)
  go_cut [52] (fun v52 wc => ∃ vb, v52 = .bool vb ∧ Aside0 (preC k who nm ot tx wd = !vb) ∧ Aside0 (Below w.heap.size w wc) ∧ Aside0 (wc.heap[w.heap.size]? = some (.cells #[.int .i64 k, .string who, .string nm, .string ot, .string tx, .slice A wd.length cap, .int .i64 a, .int .i64 b, .int .i64 c, .int .i64 d] 29)))
  case first =>
    clear HPRE
    by_cases g1 : 1 ≤ k
    rotate_left
    · have e1a : decide (k < 1) = true := by simp; omega
      have gf : decide (1 ≤ k) = false := by simp; omega
      go_wp2_with (go_at_call 48; first
        | ((with_reducible refine (PC.primerref04_Good.calls (who.size + 1) who _ _ (ref4Good_eq who hs1 _ (by omega))).mono ?_); rintro e w' ⟨rfl, ⟨nd, rfl⟩⟩; rw [H3.out])
        | ((with_reducible refine (PC.primerref04_Good.calls (nm.size + 1) nm _ _ (ref4Good_eq nm hs2 _ (by omega))).mono ?_); rintro e w' ⟨rfl, ⟨nd, rfl⟩⟩; rw [H4.out])
        | ((with_reducible refine (PC.primerref04_Good.calls (ot.size + 1) ot _ _ (ref4Good_eq ot hs3 _ (by omega))).mono ?_); rintro e w' ⟨rfl, ⟨nd, rfl⟩⟩; rw [H5.out]))
      go_meet
      case rel => exact ⟨true, rfl, ⟨by simp only [preC, gf, Bool.and_false, Bool.false_and, Bool.true_and, Bool.and_true, Bool.or_false, Bool.false_or, Bool.true_or, Bool.or_true]; first | rfl | done⟩, ⟨by repeat (first | (with_reducible first | exact HB.out | apply below_alloc | apply pw_below_drewN | apply below_drew1) | exact HB.out)⟩, ⟨BX1.out⟩⟩
    have e1a : decide (k < 1) = false := by simp; omega
    by_cases g2 : k ≤ 18
    rotate_left
    · have e2a : decide (18 < k) = true := by simp; omega
      have gf : decide (k ≤ 18) = false := by simp; omega
      go_wp2_with (go_at_call 48; first
        | ((with_reducible refine (PC.primerref04_Good.calls (who.size + 1) who _ _ (ref4Good_eq who hs1 _ (by omega))).mono ?_); rintro e w' ⟨rfl, ⟨nd, rfl⟩⟩; rw [H3.out])
        | ((with_reducible refine (PC.primerref04_Good.calls (nm.size + 1) nm _ _ (ref4Good_eq nm hs2 _ (by omega))).mono ?_); rintro e w' ⟨rfl, ⟨nd, rfl⟩⟩; rw [H4.out])
        | ((with_reducible refine (PC.primerref04_Good.calls (ot.size + 1) ot _ _ (ref4Good_eq ot hs3 _ (by omega))).mono ?_); rintro e w' ⟨rfl, ⟨nd, rfl⟩⟩; rw [H5.out]))
      go_meet
      case rel => exact ⟨true, rfl, ⟨by simp only [preC, gf, Bool.and_false, Bool.false_and, Bool.true_and, Bool.and_true, Bool.or_false, Bool.false_or, Bool.true_or, Bool.or_true]; first | rfl | done⟩, ⟨by repeat (first | (with_reducible first | exact HB.out | apply below_alloc | apply pw_below_drewN | apply below_drew1) | exact HB.out)⟩, ⟨BX1.out⟩⟩
    have e2a : decide (18 < k) = false := by simp; omega
    by_cases g3 : nameOk who = true
    rotate_left
    · have H3 := Aside0.mk (Bool.eq_false_iff.mpr g3)
      have gf := H3.out
      go_wp2_with (go_at_call 48; first
        | ((with_reducible refine (PC.primerref04_Good.calls (who.size + 1) who _ _ (ref4Good_eq who hs1 _ (by omega))).mono ?_); rintro e w' ⟨rfl, ⟨nd, rfl⟩⟩; rw [H3.out])
        | ((with_reducible refine (PC.primerref04_Good.calls (nm.size + 1) nm _ _ (ref4Good_eq nm hs2 _ (by omega))).mono ?_); rintro e w' ⟨rfl, ⟨nd, rfl⟩⟩; rw [H4.out])
        | ((with_reducible refine (PC.primerref04_Good.calls (ot.size + 1) ot _ _ (ref4Good_eq ot hs3 _ (by omega))).mono ?_); rintro e w' ⟨rfl, ⟨nd, rfl⟩⟩; rw [H5.out]))
      go_meet
      case rel => exact ⟨true, rfl, ⟨by simp only [preC, gf, Bool.and_false, Bool.false_and, Bool.true_and, Bool.and_true, Bool.or_false, Bool.false_or, Bool.true_or, Bool.or_true]; first | rfl | done⟩, ⟨by repeat (first | (with_reducible first | exact HB.out | apply below_alloc | apply pw_below_drewN | apply below_drew1) | exact HB.out)⟩, ⟨BX1.out⟩⟩
    have H3 := Aside0.mk g3
    by_cases znm : nm.size = 0
    · have mnm1 : (nm.toList == ([] : List UInt8)) = true := by rw [beq_iff_eq]; exact (toList_nil_iff nm).mpr znm
      have mnm2 : nm.toList.isEmpty = true := by rw [(toList_nil_iff nm).mpr znm]; rfl
      have H4 : Aside0 True := ⟨trivial⟩
      by_cases zot : ot.size = 0
      · have mot1 : (ot.toList == ([] : List UInt8)) = true := by rw [beq_iff_eq]; exact (toList_nil_iff ot).mpr zot
        have mot2 : ot.toList.isEmpty = true := by rw [(toList_nil_iff ot).mpr zot]; rfl
        have H5 : Aside0 True := ⟨trivial⟩
        by_cases g6 : tx.size ≤ 65536
        rotate_left
        · have e6a : decide ((65536 : Int) < (tx.size : Int)) = true := by simp; omega
          have e6b : decide (65536 < tx.size) = true := by simp; omega
          have gf : decide (tx.size ≤ 65536) = false := by simp; omega
          go_wp2_with (go_at_call 48; first
            | ((with_reducible refine (PC.primerref04_Good.calls (who.size + 1) who _ _ (ref4Good_eq who hs1 _ (by omega))).mono ?_); rintro e w' ⟨rfl, ⟨nd, rfl⟩⟩; rw [H3.out])
            | ((with_reducible refine (PC.primerref04_Good.calls (nm.size + 1) nm _ _ (ref4Good_eq nm hs2 _ (by omega))).mono ?_); rintro e w' ⟨rfl, ⟨nd, rfl⟩⟩; rw [H4.out])
            | ((with_reducible refine (PC.primerref04_Good.calls (ot.size + 1) ot _ _ (ref4Good_eq ot hs3 _ (by omega))).mono ?_); rintro e w' ⟨rfl, ⟨nd, rfl⟩⟩; rw [H5.out]))
          go_meet
          case rel => exact ⟨true, rfl, ⟨by simp only [preC, gf, Bool.and_false, Bool.false_and, Bool.true_and, Bool.and_true, Bool.or_false, Bool.false_or, Bool.true_or, Bool.or_true]; first | rfl | done⟩, ⟨by repeat (first | (with_reducible first | exact HB.out | apply below_alloc | apply pw_below_drewN | apply below_drew1) | exact HB.out)⟩, ⟨BX1.out⟩⟩
        have e6a : decide ((65536 : Int) < (tx.size : Int)) = false := by simp; omega
        have e6b : decide (65536 < tx.size) = false := by simp; omega
        by_cases g7 : wd.length ≤ 64
        rotate_left
        · have e7a : decide ((64 : Int) < (wd.length : Int)) = true := by simp; omega
          have e7b : decide (64 < wd.length) = true := by simp; omega
          have gf : decide (wd.length ≤ 64) = false := by simp; omega
          go_wp2_with (go_at_call 48; first
            | ((with_reducible refine (PC.primerref04_Good.calls (who.size + 1) who _ _ (ref4Good_eq who hs1 _ (by omega))).mono ?_); rintro e w' ⟨rfl, ⟨nd, rfl⟩⟩; rw [H3.out])
            | ((with_reducible refine (PC.primerref04_Good.calls (nm.size + 1) nm _ _ (ref4Good_eq nm hs2 _ (by omega))).mono ?_); rintro e w' ⟨rfl, ⟨nd, rfl⟩⟩; rw [H4.out])
            | ((with_reducible refine (PC.primerref04_Good.calls (ot.size + 1) ot _ _ (ref4Good_eq ot hs3 _ (by omega))).mono ?_); rintro e w' ⟨rfl, ⟨nd, rfl⟩⟩; rw [H5.out]))
          go_meet
          case rel => exact ⟨true, rfl, ⟨by simp only [preC, gf, Bool.and_false, Bool.false_and, Bool.true_and, Bool.and_true, Bool.or_false, Bool.false_or, Bool.true_or, Bool.or_true]; first | rfl | done⟩, ⟨by repeat (first | (with_reducible first | exact HB.out | apply below_alloc | apply pw_below_drewN | apply below_drew1) | exact HB.out)⟩, ⟨BX1.out⟩⟩
        have e7a : decide ((64 : Int) < (wd.length : Int)) = false := by simp; omega
        have e7b : decide (64 < wd.length) = false := by simp; omega
        have gf : preC k who nm ot tx wd = true := by unfold preC; simp only [Bool.and_eq_true, Bool.or_eq_true, decide_eq_true_eq]; refine ⟨⟨⟨⟨⟨⟨?_, ?_⟩, ?_⟩, ?_⟩, ?_⟩, ?_⟩, ?_⟩ <;> first | omega | exact H3.out | exact Or.inl znm | exact Or.inl zot | exact Or.inr H4.out | exact Or.inr H5.out
        go_wp2_with (go_at_call 48; first
          | ((with_reducible refine (PC.primerref04_Good.calls (who.size + 1) who _ _ (ref4Good_eq who hs1 _ (by omega))).mono ?_); rintro e w' ⟨rfl, ⟨nd, rfl⟩⟩; rw [H3.out])
          | ((with_reducible refine (PC.primerref04_Good.calls (nm.size + 1) nm _ _ (ref4Good_eq nm hs2 _ (by omega))).mono ?_); rintro e w' ⟨rfl, ⟨nd, rfl⟩⟩; rw [H4.out])
          | ((with_reducible refine (PC.primerref04_Good.calls (ot.size + 1) ot _ _ (ref4Good_eq ot hs3 _ (by omega))).mono ?_); rintro e w' ⟨rfl, ⟨nd, rfl⟩⟩; rw [H5.out]))
        go_meet
        case rel => exact ⟨false, rfl, ⟨by rw [gf]; rfl⟩, ⟨by repeat (first | (with_reducible first | exact HB.out | apply below_alloc | apply pw_below_drewN | apply below_drew1) | exact HB.out)⟩, ⟨BX1.out⟩⟩
      · have mot1 : (ot.toList == ([] : List UInt8)) = false := by rw [beq_eq_false_iff_ne]; exact fun h => zot ((toList_nil_iff ot).mp h)
        have mot2 : ot.toList.isEmpty = false := by exact isEmpty_false zot
        by_cases g5 : nameOk ot = true
        rotate_left
        · have H5 := Aside0.mk (Bool.eq_false_iff.mpr g5)
          have gf : (decide (ot.size = 0) || nameOk ot) = false := by rw [H5.out, Bool.or_false]; exact decide_eq_false zot
          go_wp2_with (go_at_call 48; first
            | ((with_reducible refine (PC.primerref04_Good.calls (who.size + 1) who _ _ (ref4Good_eq who hs1 _ (by omega))).mono ?_); rintro e w' ⟨rfl, ⟨nd, rfl⟩⟩; rw [H3.out])
            | ((with_reducible refine (PC.primerref04_Good.calls (nm.size + 1) nm _ _ (ref4Good_eq nm hs2 _ (by omega))).mono ?_); rintro e w' ⟨rfl, ⟨nd, rfl⟩⟩; rw [H4.out])
            | ((with_reducible refine (PC.primerref04_Good.calls (ot.size + 1) ot _ _ (ref4Good_eq ot hs3 _ (by omega))).mono ?_); rintro e w' ⟨rfl, ⟨nd, rfl⟩⟩; rw [H5.out]))
          go_meet
          case rel => exact ⟨true, rfl, ⟨by simp only [preC, gf, Bool.and_false, Bool.false_and, Bool.true_and, Bool.and_true, Bool.or_false, Bool.false_or, Bool.true_or, Bool.or_true]; first | rfl | done⟩, ⟨by repeat (first | (with_reducible first | exact HB.out | apply below_alloc | apply pw_below_drewN | apply below_drew1) | exact HB.out)⟩, ⟨BX1.out⟩⟩
        have H5 := Aside0.mk g5
        by_cases g6 : tx.size ≤ 65536
        rotate_left
        · have e6a : decide ((65536 : Int) < (tx.size : Int)) = true := by simp; omega
          have e6b : decide (65536 < tx.size) = true := by simp; omega
          have gf : decide (tx.size ≤ 65536) = false := by simp; omega
          go_wp2_with (go_at_call 48; first
            | ((with_reducible refine (PC.primerref04_Good.calls (who.size + 1) who _ _ (ref4Good_eq who hs1 _ (by omega))).mono ?_); rintro e w' ⟨rfl, ⟨nd, rfl⟩⟩; rw [H3.out])
            | ((with_reducible refine (PC.primerref04_Good.calls (nm.size + 1) nm _ _ (ref4Good_eq nm hs2 _ (by omega))).mono ?_); rintro e w' ⟨rfl, ⟨nd, rfl⟩⟩; rw [H4.out])
            | ((with_reducible refine (PC.primerref04_Good.calls (ot.size + 1) ot _ _ (ref4Good_eq ot hs3 _ (by omega))).mono ?_); rintro e w' ⟨rfl, ⟨nd, rfl⟩⟩; rw [H5.out]))
          go_meet
          case rel => exact ⟨true, rfl, ⟨by simp only [preC, gf, Bool.and_false, Bool.false_and, Bool.true_and, Bool.and_true, Bool.or_false, Bool.false_or, Bool.true_or, Bool.or_true]; first | rfl | done⟩, ⟨by repeat (first | (with_reducible first | exact HB.out | apply below_alloc | apply pw_below_drewN | apply below_drew1) | exact HB.out)⟩, ⟨BX1.out⟩⟩
        have e6a : decide ((65536 : Int) < (tx.size : Int)) = false := by simp; omega
        have e6b : decide (65536 < tx.size) = false := by simp; omega
        by_cases g7 : wd.length ≤ 64
        rotate_left
        · have e7a : decide ((64 : Int) < (wd.length : Int)) = true := by simp; omega
          have e7b : decide (64 < wd.length) = true := by simp; omega
          have gf : decide (wd.length ≤ 64) = false := by simp; omega
          go_wp2_with (go_at_call 48; first
            | ((with_reducible refine (PC.primerref04_Good.calls (who.size + 1) who _ _ (ref4Good_eq who hs1 _ (by omega))).mono ?_); rintro e w' ⟨rfl, ⟨nd, rfl⟩⟩; rw [H3.out])
            | ((with_reducible refine (PC.primerref04_Good.calls (nm.size + 1) nm _ _ (ref4Good_eq nm hs2 _ (by omega))).mono ?_); rintro e w' ⟨rfl, ⟨nd, rfl⟩⟩; rw [H4.out])
            | ((with_reducible refine (PC.primerref04_Good.calls (ot.size + 1) ot _ _ (ref4Good_eq ot hs3 _ (by omega))).mono ?_); rintro e w' ⟨rfl, ⟨nd, rfl⟩⟩; rw [H5.out]))
          go_meet
          case rel => exact ⟨true, rfl, ⟨by simp only [preC, gf, Bool.and_false, Bool.false_and, Bool.true_and, Bool.and_true, Bool.or_false, Bool.false_or, Bool.true_or, Bool.or_true]; first | rfl | done⟩, ⟨by repeat (first | (with_reducible first | exact HB.out | apply below_alloc | apply pw_below_drewN | apply below_drew1) | exact HB.out)⟩, ⟨BX1.out⟩⟩
        have e7a : decide ((64 : Int) < (wd.length : Int)) = false := by simp; omega
        have e7b : decide (64 < wd.length) = false := by simp; omega
        have gf : preC k who nm ot tx wd = true := by unfold preC; simp only [Bool.and_eq_true, Bool.or_eq_true, decide_eq_true_eq]; refine ⟨⟨⟨⟨⟨⟨?_, ?_⟩, ?_⟩, ?_⟩, ?_⟩, ?_⟩, ?_⟩ <;> first | omega | exact H3.out | exact Or.inl znm | exact Or.inl zot | exact Or.inr H4.out | exact Or.inr H5.out
        go_wp2_with (go_at_call 48; first
          | ((with_reducible refine (PC.primerref04_Good.calls (who.size + 1) who _ _ (ref4Good_eq who hs1 _ (by omega))).mono ?_); rintro e w' ⟨rfl, ⟨nd, rfl⟩⟩; rw [H3.out])
          | ((with_reducible refine (PC.primerref04_Good.calls (nm.size + 1) nm _ _ (ref4Good_eq nm hs2 _ (by omega))).mono ?_); rintro e w' ⟨rfl, ⟨nd, rfl⟩⟩; rw [H4.out])
          | ((with_reducible refine (PC.primerref04_Good.calls (ot.size + 1) ot _ _ (ref4Good_eq ot hs3 _ (by omega))).mono ?_); rintro e w' ⟨rfl, ⟨nd, rfl⟩⟩; rw [H5.out]))
        go_meet
        case rel => exact ⟨false, rfl, ⟨by rw [gf]; rfl⟩, ⟨by repeat (first | (with_reducible first | exact HB.out | apply below_alloc | apply pw_below_drewN | apply below_drew1) | exact HB.out)⟩, ⟨BX1.out⟩⟩
    · have mnm1 : (nm.toList == ([] : List UInt8)) = false := by rw [beq_eq_false_iff_ne]; exact fun h => znm ((toList_nil_iff nm).mp h)
      have mnm2 : nm.toList.isEmpty = false := by exact isEmpty_false znm
      by_cases g4 : nameOk nm = true
      rotate_left
      · have H4 := Aside0.mk (Bool.eq_false_iff.mpr g4)
        have gf : (decide (nm.size = 0) || nameOk nm) = false := by rw [H4.out, Bool.or_false]; exact decide_eq_false znm
        go_wp2_with (go_at_call 48; first
          | ((with_reducible refine (PC.primerref04_Good.calls (who.size + 1) who _ _ (ref4Good_eq who hs1 _ (by omega))).mono ?_); rintro e w' ⟨rfl, ⟨nd, rfl⟩⟩; rw [H3.out])
          | ((with_reducible refine (PC.primerref04_Good.calls (nm.size + 1) nm _ _ (ref4Good_eq nm hs2 _ (by omega))).mono ?_); rintro e w' ⟨rfl, ⟨nd, rfl⟩⟩; rw [H4.out])
          | ((with_reducible refine (PC.primerref04_Good.calls (ot.size + 1) ot _ _ (ref4Good_eq ot hs3 _ (by omega))).mono ?_); rintro e w' ⟨rfl, ⟨nd, rfl⟩⟩; rw [H5.out]))
        go_meet
        case rel => exact ⟨true, rfl, ⟨by simp only [preC, gf, Bool.and_false, Bool.false_and, Bool.true_and, Bool.and_true, Bool.or_false, Bool.false_or, Bool.true_or, Bool.or_true]; first | rfl | done⟩, ⟨by repeat (first | (with_reducible first | exact HB.out | apply below_alloc | apply pw_below_drewN | apply below_drew1) | exact HB.out)⟩, ⟨BX1.out⟩⟩
      have H4 := Aside0.mk g4
      by_cases zot : ot.size = 0
      · have mot1 : (ot.toList == ([] : List UInt8)) = true := by rw [beq_iff_eq]; exact (toList_nil_iff ot).mpr zot
        have mot2 : ot.toList.isEmpty = true := by rw [(toList_nil_iff ot).mpr zot]; rfl
        have H5 : Aside0 True := ⟨trivial⟩
        by_cases g6 : tx.size ≤ 65536
        rotate_left
        · have e6a : decide ((65536 : Int) < (tx.size : Int)) = true := by simp; omega
          have e6b : decide (65536 < tx.size) = true := by simp; omega
          have gf : decide (tx.size ≤ 65536) = false := by simp; omega
          go_wp2_with (go_at_call 48; first
            | ((with_reducible refine (PC.primerref04_Good.calls (who.size + 1) who _ _ (ref4Good_eq who hs1 _ (by omega))).mono ?_); rintro e w' ⟨rfl, ⟨nd, rfl⟩⟩; rw [H3.out])
            | ((with_reducible refine (PC.primerref04_Good.calls (nm.size + 1) nm _ _ (ref4Good_eq nm hs2 _ (by omega))).mono ?_); rintro e w' ⟨rfl, ⟨nd, rfl⟩⟩; rw [H4.out])
            | ((with_reducible refine (PC.primerref04_Good.calls (ot.size + 1) ot _ _ (ref4Good_eq ot hs3 _ (by omega))).mono ?_); rintro e w' ⟨rfl, ⟨nd, rfl⟩⟩; rw [H5.out]))
          go_meet
          case rel => exact ⟨true, rfl, ⟨by simp only [preC, gf, Bool.and_false, Bool.false_and, Bool.true_and, Bool.and_true, Bool.or_false, Bool.false_or, Bool.true_or, Bool.or_true]; first | rfl | done⟩, ⟨by repeat (first | (with_reducible first | exact HB.out | apply below_alloc | apply pw_below_drewN | apply below_drew1) | exact HB.out)⟩, ⟨BX1.out⟩⟩
        have e6a : decide ((65536 : Int) < (tx.size : Int)) = false := by simp; omega
        have e6b : decide (65536 < tx.size) = false := by simp; omega
        by_cases g7 : wd.length ≤ 64
        rotate_left
        · have e7a : decide ((64 : Int) < (wd.length : Int)) = true := by simp; omega
          have e7b : decide (64 < wd.length) = true := by simp; omega
          have gf : decide (wd.length ≤ 64) = false := by simp; omega
          go_wp2_with (go_at_call 48; first
            | ((with_reducible refine (PC.primerref04_Good.calls (who.size + 1) who _ _ (ref4Good_eq who hs1 _ (by omega))).mono ?_); rintro e w' ⟨rfl, ⟨nd, rfl⟩⟩; rw [H3.out])
            | ((with_reducible refine (PC.primerref04_Good.calls (nm.size + 1) nm _ _ (ref4Good_eq nm hs2 _ (by omega))).mono ?_); rintro e w' ⟨rfl, ⟨nd, rfl⟩⟩; rw [H4.out])
            | ((with_reducible refine (PC.primerref04_Good.calls (ot.size + 1) ot _ _ (ref4Good_eq ot hs3 _ (by omega))).mono ?_); rintro e w' ⟨rfl, ⟨nd, rfl⟩⟩; rw [H5.out]))
          go_meet
          case rel => exact ⟨true, rfl, ⟨by simp only [preC, gf, Bool.and_false, Bool.false_and, Bool.true_and, Bool.and_true, Bool.or_false, Bool.false_or, Bool.true_or, Bool.or_true]; first | rfl | done⟩, ⟨by repeat (first | (with_reducible first | exact HB.out | apply below_alloc | apply pw_below_drewN | apply below_drew1) | exact HB.out)⟩, ⟨BX1.out⟩⟩
        have e7a : decide ((64 : Int) < (wd.length : Int)) = false := by simp; omega
        have e7b : decide (64 < wd.length) = false := by simp; omega
        have gf : preC k who nm ot tx wd = true := by unfold preC; simp only [Bool.and_eq_true, Bool.or_eq_true, decide_eq_true_eq]; refine ⟨⟨⟨⟨⟨⟨?_, ?_⟩, ?_⟩, ?_⟩, ?_⟩, ?_⟩, ?_⟩ <;> first | omega | exact H3.out | exact Or.inl znm | exact Or.inl zot | exact Or.inr H4.out | exact Or.inr H5.out
        go_wp2_with (go_at_call 48; first
          | ((with_reducible refine (PC.primerref04_Good.calls (who.size + 1) who _ _ (ref4Good_eq who hs1 _ (by omega))).mono ?_); rintro e w' ⟨rfl, ⟨nd, rfl⟩⟩; rw [H3.out])
          | ((with_reducible refine (PC.primerref04_Good.calls (nm.size + 1) nm _ _ (ref4Good_eq nm hs2 _ (by omega))).mono ?_); rintro e w' ⟨rfl, ⟨nd, rfl⟩⟩; rw [H4.out])
          | ((with_reducible refine (PC.primerref04_Good.calls (ot.size + 1) ot _ _ (ref4Good_eq ot hs3 _ (by omega))).mono ?_); rintro e w' ⟨rfl, ⟨nd, rfl⟩⟩; rw [H5.out]))
        go_meet
        case rel => exact ⟨false, rfl, ⟨by rw [gf]; rfl⟩, ⟨by repeat (first | (with_reducible first | exact HB.out | apply below_alloc | apply pw_below_drewN | apply below_drew1) | exact HB.out)⟩, ⟨BX1.out⟩⟩
      · have mot1 : (ot.toList == ([] : List UInt8)) = false := by rw [beq_eq_false_iff_ne]; exact fun h => zot ((toList_nil_iff ot).mp h)
        have mot2 : ot.toList.isEmpty = false := by exact isEmpty_false zot
        by_cases g5 : nameOk ot = true
        rotate_left
        · have H5 := Aside0.mk (Bool.eq_false_iff.mpr g5)
          have gf : (decide (ot.size = 0) || nameOk ot) = false := by rw [H5.out, Bool.or_false]; exact decide_eq_false zot
          go_wp2_with (go_at_call 48; first
            | ((with_reducible refine (PC.primerref04_Good.calls (who.size + 1) who _ _ (ref4Good_eq who hs1 _ (by omega))).mono ?_); rintro e w' ⟨rfl, ⟨nd, rfl⟩⟩; rw [H3.out])
            | ((with_reducible refine (PC.primerref04_Good.calls (nm.size + 1) nm _ _ (ref4Good_eq nm hs2 _ (by omega))).mono ?_); rintro e w' ⟨rfl, ⟨nd, rfl⟩⟩; rw [H4.out])
            | ((with_reducible refine (PC.primerref04_Good.calls (ot.size + 1) ot _ _ (ref4Good_eq ot hs3 _ (by omega))).mono ?_); rintro e w' ⟨rfl, ⟨nd, rfl⟩⟩; rw [H5.out]))
          go_meet
          case rel => exact ⟨true, rfl, ⟨by simp only [preC, gf, Bool.and_false, Bool.false_and, Bool.true_and, Bool.and_true, Bool.or_false, Bool.false_or, Bool.true_or, Bool.or_true]; first | rfl | done⟩, ⟨by repeat (first | (with_reducible first | exact HB.out | apply below_alloc | apply pw_below_drewN | apply below_drew1) | exact HB.out)⟩, ⟨BX1.out⟩⟩
        have H5 := Aside0.mk g5
        by_cases g6 : tx.size ≤ 65536
        rotate_left
        · have e6a : decide ((65536 : Int) < (tx.size : Int)) = true := by simp; omega
          have e6b : decide (65536 < tx.size) = true := by simp; omega
          have gf : decide (tx.size ≤ 65536) = false := by simp; omega
          go_wp2_with (go_at_call 48; first
            | ((with_reducible refine (PC.primerref04_Good.calls (who.size + 1) who _ _ (ref4Good_eq who hs1 _ (by omega))).mono ?_); rintro e w' ⟨rfl, ⟨nd, rfl⟩⟩; rw [H3.out])
            | ((with_reducible refine (PC.primerref04_Good.calls (nm.size + 1) nm _ _ (ref4Good_eq nm hs2 _ (by omega))).mono ?_); rintro e w' ⟨rfl, ⟨nd, rfl⟩⟩; rw [H4.out])
            | ((with_reducible refine (PC.primerref04_Good.calls (ot.size + 1) ot _ _ (ref4Good_eq ot hs3 _ (by omega))).mono ?_); rintro e w' ⟨rfl, ⟨nd, rfl⟩⟩; rw [H5.out]))
          go_meet
          case rel => exact ⟨true, rfl, ⟨by simp only [preC, gf, Bool.and_false, Bool.false_and, Bool.true_and, Bool.and_true, Bool.or_false, Bool.false_or, Bool.true_or, Bool.or_true]; first | rfl | done⟩, ⟨by repeat (first | (with_reducible first | exact HB.out | apply below_alloc | apply pw_below_drewN | apply below_drew1) | exact HB.out)⟩, ⟨BX1.out⟩⟩
        have e6a : decide ((65536 : Int) < (tx.size : Int)) = false := by simp; omega
        have e6b : decide (65536 < tx.size) = false := by simp; omega
        by_cases g7 : wd.length ≤ 64
        rotate_left
        · have e7a : decide ((64 : Int) < (wd.length : Int)) = true := by simp; omega
          have e7b : decide (64 < wd.length) = true := by simp; omega
          have gf : decide (wd.length ≤ 64) = false := by simp; omega
          go_wp2_with (go_at_call 48; first
            | ((with_reducible refine (PC.primerref04_Good.calls (who.size + 1) who _ _ (ref4Good_eq who hs1 _ (by omega))).mono ?_); rintro e w' ⟨rfl, ⟨nd, rfl⟩⟩; rw [H3.out])
            | ((with_reducible refine (PC.primerref04_Good.calls (nm.size + 1) nm _ _ (ref4Good_eq nm hs2 _ (by omega))).mono ?_); rintro e w' ⟨rfl, ⟨nd, rfl⟩⟩; rw [H4.out])
            | ((with_reducible refine (PC.primerref04_Good.calls (ot.size + 1) ot _ _ (ref4Good_eq ot hs3 _ (by omega))).mono ?_); rintro e w' ⟨rfl, ⟨nd, rfl⟩⟩; rw [H5.out]))
          go_meet
          case rel => exact ⟨true, rfl, ⟨by simp only [preC, gf, Bool.and_false, Bool.false_and, Bool.true_and, Bool.and_true, Bool.or_false, Bool.false_or, Bool.true_or, Bool.or_true]; first | rfl | done⟩, ⟨by repeat (first | (with_reducible first | exact HB.out | apply below_alloc | apply pw_below_drewN | apply below_drew1) | exact HB.out)⟩, ⟨BX1.out⟩⟩
        have e7a : decide ((64 : Int) < (wd.length : Int)) = false := by simp; omega
        have e7b : decide (64 < wd.length) = false := by simp; omega
        have gf : preC k who nm ot tx wd = true := by unfold preC; simp only [Bool.and_eq_true, Bool.or_eq_true, decide_eq_true_eq]; refine ⟨⟨⟨⟨⟨⟨?_, ?_⟩, ?_⟩, ?_⟩, ?_⟩, ?_⟩, ?_⟩ <;> first | omega | exact H3.out | exact Or.inl znm | exact Or.inl zot | exact Or.inr H4.out | exact Or.inr H5.out
        go_wp2_with (go_at_call 48; first
          | ((with_reducible refine (PC.primerref04_Good.calls (who.size + 1) who _ _ (ref4Good_eq who hs1 _ (by omega))).mono ?_); rintro e w' ⟨rfl, ⟨nd, rfl⟩⟩; rw [H3.out])
          | ((with_reducible refine (PC.primerref04_Good.calls (nm.size + 1) nm _ _ (ref4Good_eq nm hs2 _ (by omega))).mono ?_); rintro e w' ⟨rfl, ⟨nd, rfl⟩⟩; rw [H4.out])
          | ((with_reducible refine (PC.primerref04_Good.calls (ot.size + 1) ot _ _ (ref4Good_eq ot hs3 _ (by omega))).mono ?_); rintro e w' ⟨rfl, ⟨nd, rfl⟩⟩; rw [H5.out]))
        go_meet
        case rel => exact ⟨false, rfl, ⟨by rw [gf]; rfl⟩, ⟨by repeat (first | (with_reducible first | exact HB.out | apply below_alloc | apply pw_below_drewN | apply below_drew1) | exact HB.out)⟩, ⟨BX1.out⟩⟩
  case rest =>
    obtain ⟨vb, rfl, HV, HB1, HX1⟩ := hcut
    cases vb
    rotate_left
    · go_wp2
      go_ret
      exact ⟨by rw [HPRE.out, HV.out]; simp, HB1.out⟩
    have HV2 : Aside0 (goodC k who nm ot tx wd a b c d = ((!(wd.any fun s => decide (16 < s.size))) && fitsN a && fitsN b && fitsN c && fitsN d)) := ⟨by rw [HPRE.out, HV.out]; simp⟩
    clear HPRE HV BX1
    have hz5 := (blk_cell HX1.out 5).trans (show _ = some (.slice A wd.length cap) from rfl)
    go_wp2_with fail
    clear hz5
    go_loopw [3] (fun i wr => ∃ j : Nat, j ≤ wd.length ∧ i = .int .i64 j ∧ Aside0 ((wd.any fun s => decide (16 < s.size)) = ((wd.drop j).any fun s => decide (16 < s.size))) ∧ Aside0 (Below w.heap.size w wr) ∧ Aside0 (wr.heap[w.heap.size]? = some (.cells #[.int .i64 k, .string who, .string nm, .string ot, .string tx, .slice A wd.length cap, .int .i64 a, .int .i64 b, .int .i64 c, .int .i64 d] 29))) (fun i _ => wd.length - (intOf i).toNat)
    case atStart => exact ⟨0, Nat.zero_le _, rfl, ⟨rfl⟩, HB1, HX1⟩
    case round =>
      obtain ⟨j, hj, rfl, HANY, HB2, HX⟩ := hrel
      clear HB1 HX1
      have hz5 := (blk_cell HX.out 5).trans (show _ = some (.slice A wd.length cap) from rfl)
      have hmx := HR.out.2.1
      by_cases hjn : j < wd.length
      · obtain ⟨ad, rfl, hcell⟩ := C_str (Kd.C_below HR.out HB2.out) j hjn
        have hd : decide ((j : Int) < (wd.length : Int)) = true := by simp; omega
        obtain ⟨x, hx⟩ : ∃ x, wd[j] = x := ⟨_, rfl⟩
        have hs : ((wd.drop j).any fun s => decide (16 < s.size)) = (decide (16 < x.size) || (wd.drop (j + 1)).any fun s => decide (16 < s.size)) := by rw [List.drop_eq_getElem_cons hjn, List.any_cons, hx]
        rw [hx] at hcell
        have HS := Aside0.mk hs
        clear hs hx
        by_cases hbig : 16 < x.size
        · have hb1 : decide ((16 : Int) < (x.size : Int)) = true := by simp; omega
          have hb2 : decide (16 < x.size) = true := by simp; omega
          have HQ := Aside0.mk hb2
          go_wp2
          go_ret
          exact ⟨by rw [HV2.out, HANY.out, HS.out, HQ.out]; simp, HB2.out⟩
        · have hb1 : decide ((16 : Int) < (x.size : Int)) = false := by simp; omega
          have hb2 : decide (16 < x.size) = false := by simp; omega
          have HQ := Aside0.mk hb2
          go_wp2_with fail
          go_roundw
          case rel => exact ⟨j + 1, by omega, by go_num, ⟨by rw [HANY.out, HS.out, HQ.out]; rfl⟩, HB2, HX⟩
          case measure => simp [intOf]; omega
      · obtain rfl : wd.length = j := by omega
        have hd : decide ((wd.length : Int) < (wd.length : Int)) = false := by simp
        have hany : (wd.any fun s => decide (16 < s.size)) = false := by rw [HANY.out, List.drop_length]; rfl
        have GOOD : Aside0 (goodC k who nm ot tx wd a b c d = (fitsN a && fitsN b && fitsN c && fitsN d)) := ⟨by rw [HV2.out, hany]; rfl⟩
        clear hany HV2 HANY
        go_wp2_with fail
        clear hz5
        go_loopw [4] (fun i wr => ∃ j : Nat, j ≤ 4 ∧ i = .int .i64 j ∧ Aside0 ((0 < j → fitsN a = true) ∧ (1 < j → fitsN b = true) ∧ (2 < j → fitsN c = true) ∧ (3 < j → fitsN d = true)) ∧ Aside0 (Below w.heap.size w wr) ∧ Aside0 (wr.heap[w.heap.size]? = some (.cells #[.int .i64 k, .string who, .string nm, .string ot, .string tx, .slice A wd.length cap, .int .i64 a, .int .i64 b, .int .i64 c, .int .i64 d] 29))) (fun i _ => 4 - (intOf i).toNat)
        case atStart => exact ⟨0, Nat.zero_le _, rfl, ⟨fun h => absurd h (by omega), fun h => absurd h (by omega), fun h => absurd h (by omega), fun h => absurd h (by omega)⟩, HB2, HX⟩
        case round =>
          clear HB2 HX
          obtain ⟨j, hj, rfl, HF, HB2, HX⟩ := hrel
          rcases (show j = 0 ∨ j = 1 ∨ j = 2 ∨ j = 3 ∨ j = 4 from by omega) with rfl | rfl | rfl | rfl | rfl
          · obtain ⟨S, hS⟩ : ∃ S, S = strOfNums (putL a) := ⟨_, rfl⟩
            have hpe := put_empty a
            rw [← hS] at hpe
            have HSS := Aside0.mk hS
            have HPE := Aside0.mk hpe
            clear hS hpe
            have hz : wr.cell? ⟨w.heap.size, 6, none⟩ = some (.int .i64 a) := (blk_cell HX.out 6).trans rfl
            cases hfn : fitsN a
            · have hem : S.toList.isEmpty = true := by have h := HPE.out; rw [hfn] at h; cases he : S.toList.isEmpty <;> simp_all
              have hem2 : (S.toList == ([] : List UInt8)) = true := by rw [beq_iff_eq]; exact List.isEmpty_iff.mp hem
              have HFN := Aside0.mk hfn
              clear hfn
              go_wp2_with (go_at_call 49; refine (primerref01_Put.calls 20 a S _ (by rw [refPut_eq a hna 20 (by omega), HSS.out])).mono ?_; rintro e w5 ⟨rfl, hb5⟩; have HB5 := Aside0.mk (below_then HB2.out HB2.out.size hb5); clear hb5)
              go_ret
              exact ⟨by rw [GOOD.out, HFN.out]; simp, HB5.out⟩
            · have hem : S.toList.isEmpty = false := by have h := HPE.out; rw [hfn] at h; cases he : S.toList.isEmpty <;> simp_all
              have hem2 : (S.toList == ([] : List UInt8)) = false := by rw [beq_eq_false_iff_ne]; exact fun h => by rw [h] at hem; exact absurd hem (by decide)
              have HFN := Aside0.mk hfn
              clear hfn
              go_wp2_with (go_at_call 49; refine (primerref01_Put.calls 20 a S _ (by rw [refPut_eq a hna 20 (by omega), HSS.out])).mono ?_; rintro e w5 ⟨rfl, hb5⟩; have HB5 := Aside0.mk (below_then HB2.out HB2.out.size hb5); have HX5 := Aside0.mk ((hb5.block w.heap.size (blk_lt HX.out)).trans HX.out); clear hb5)
              go_roundw
              case rel => exact ⟨1, by omega, rfl, ⟨fun _ => by first | exact HFN.out | trivial, fun h => absurd h (by omega), fun h => absurd h (by omega), fun h => absurd h (by omega)⟩, HB5, HX5⟩
              case measure => simp [intOf]
          · obtain ⟨S, hS⟩ : ∃ S, S = strOfNums (putL b) := ⟨_, rfl⟩
            have hpe := put_empty b
            rw [← hS] at hpe
            have HSS := Aside0.mk hS
            have HPE := Aside0.mk hpe
            clear hS hpe
            have hz : wr.cell? ⟨w.heap.size, 7, none⟩ = some (.int .i64 b) := (blk_cell HX.out 7).trans rfl
            cases hfn : fitsN b
            · have hem : S.toList.isEmpty = true := by have h := HPE.out; rw [hfn] at h; cases he : S.toList.isEmpty <;> simp_all
              have hem2 : (S.toList == ([] : List UInt8)) = true := by rw [beq_iff_eq]; exact List.isEmpty_iff.mp hem
              have HFN := Aside0.mk hfn
              clear hfn
              go_wp2_with (go_at_call 49; refine (primerref01_Put.calls 20 b S _ (by rw [refPut_eq b hnb 20 (by omega), HSS.out])).mono ?_; rintro e w5 ⟨rfl, hb5⟩; have HB5 := Aside0.mk (below_then HB2.out HB2.out.size hb5); clear hb5)
              go_ret
              exact ⟨by rw [GOOD.out, HF.out.1 (by omega), HFN.out]; simp, HB5.out⟩
            · have hem : S.toList.isEmpty = false := by have h := HPE.out; rw [hfn] at h; cases he : S.toList.isEmpty <;> simp_all
              have hem2 : (S.toList == ([] : List UInt8)) = false := by rw [beq_eq_false_iff_ne]; exact fun h => by rw [h] at hem; exact absurd hem (by decide)
              have HFN := Aside0.mk hfn
              clear hfn
              go_wp2_with (go_at_call 49; refine (primerref01_Put.calls 20 b S _ (by rw [refPut_eq b hnb 20 (by omega), HSS.out])).mono ?_; rintro e w5 ⟨rfl, hb5⟩; have HB5 := Aside0.mk (below_then HB2.out HB2.out.size hb5); have HX5 := Aside0.mk ((hb5.block w.heap.size (blk_lt HX.out)).trans HX.out); clear hb5)
              go_roundw
              case rel => exact ⟨2, by omega, rfl, ⟨fun _ => HF.out.1 (by omega), fun _ => by first | exact HFN.out | trivial, fun h => absurd h (by omega), fun h => absurd h (by omega)⟩, HB5, HX5⟩
              case measure => simp [intOf]
          · obtain ⟨S, hS⟩ : ∃ S, S = strOfNums (putL c) := ⟨_, rfl⟩
            have hpe := put_empty c
            rw [← hS] at hpe
            have HSS := Aside0.mk hS
            have HPE := Aside0.mk hpe
            clear hS hpe
            have hz : wr.cell? ⟨w.heap.size, 8, none⟩ = some (.int .i64 c) := (blk_cell HX.out 8).trans rfl
            cases hfn : fitsN c
            · have hem : S.toList.isEmpty = true := by have h := HPE.out; rw [hfn] at h; cases he : S.toList.isEmpty <;> simp_all
              have hem2 : (S.toList == ([] : List UInt8)) = true := by rw [beq_iff_eq]; exact List.isEmpty_iff.mp hem
              have HFN := Aside0.mk hfn
              clear hfn
              go_wp2_with (go_at_call 49; refine (primerref01_Put.calls 20 c S _ (by rw [refPut_eq c hnc 20 (by omega), HSS.out])).mono ?_; rintro e w5 ⟨rfl, hb5⟩; have HB5 := Aside0.mk (below_then HB2.out HB2.out.size hb5); clear hb5)
              go_ret
              exact ⟨by rw [GOOD.out, HF.out.1 (by omega), HF.out.2.1 (by omega), HFN.out]; simp, HB5.out⟩
            · have hem : S.toList.isEmpty = false := by have h := HPE.out; rw [hfn] at h; cases he : S.toList.isEmpty <;> simp_all
              have hem2 : (S.toList == ([] : List UInt8)) = false := by rw [beq_eq_false_iff_ne]; exact fun h => by rw [h] at hem; exact absurd hem (by decide)
              have HFN := Aside0.mk hfn
              clear hfn
              go_wp2_with (go_at_call 49; refine (primerref01_Put.calls 20 c S _ (by rw [refPut_eq c hnc 20 (by omega), HSS.out])).mono ?_; rintro e w5 ⟨rfl, hb5⟩; have HB5 := Aside0.mk (below_then HB2.out HB2.out.size hb5); have HX5 := Aside0.mk ((hb5.block w.heap.size (blk_lt HX.out)).trans HX.out); clear hb5)
              go_roundw
              case rel => exact ⟨3, by omega, rfl, ⟨fun _ => HF.out.1 (by omega), fun _ => HF.out.2.1 (by omega), fun _ => by first | exact HFN.out | trivial, fun h => absurd h (by omega)⟩, HB5, HX5⟩
              case measure => simp [intOf]
          · obtain ⟨S, hS⟩ : ∃ S, S = strOfNums (putL d) := ⟨_, rfl⟩
            have hpe := put_empty d
            rw [← hS] at hpe
            have HSS := Aside0.mk hS
            have HPE := Aside0.mk hpe
            clear hS hpe
            have hz : wr.cell? ⟨w.heap.size, 9, none⟩ = some (.int .i64 d) := (blk_cell HX.out 9).trans rfl
            cases hfn : fitsN d
            · have hem : S.toList.isEmpty = true := by have h := HPE.out; rw [hfn] at h; cases he : S.toList.isEmpty <;> simp_all
              have hem2 : (S.toList == ([] : List UInt8)) = true := by rw [beq_iff_eq]; exact List.isEmpty_iff.mp hem
              have HFN := Aside0.mk hfn
              clear hfn
              go_wp2_with (go_at_call 49; refine (primerref01_Put.calls 20 d S _ (by rw [refPut_eq d hnd 20 (by omega), HSS.out])).mono ?_; rintro e w5 ⟨rfl, hb5⟩; have HB5 := Aside0.mk (below_then HB2.out HB2.out.size hb5); clear hb5)
              go_ret
              exact ⟨by rw [GOOD.out, HF.out.1 (by omega), HF.out.2.1 (by omega), HF.out.2.2.1 (by omega), HFN.out]; simp, HB5.out⟩
            · have hem : S.toList.isEmpty = false := by have h := HPE.out; rw [hfn] at h; cases he : S.toList.isEmpty <;> simp_all
              have hem2 : (S.toList == ([] : List UInt8)) = false := by rw [beq_eq_false_iff_ne]; exact fun h => by rw [h] at hem; exact absurd hem (by decide)
              have HFN := Aside0.mk hfn
              clear hfn
              go_wp2_with (go_at_call 49; refine (primerref01_Put.calls 20 d S _ (by rw [refPut_eq d hnd 20 (by omega), HSS.out])).mono ?_; rintro e w5 ⟨rfl, hb5⟩; have HB5 := Aside0.mk (below_then HB2.out HB2.out.size hb5); have HX5 := Aside0.mk ((hb5.block w.heap.size (blk_lt HX.out)).trans HX.out); clear hb5)
              go_roundw
              case rel => exact ⟨4, by omega, rfl, ⟨fun _ => HF.out.1 (by omega), fun _ => HF.out.2.1 (by omega), fun _ => HF.out.2.2.1 (by omega), fun _ => by first | exact HFN.out | trivial⟩, HB5, HX5⟩
              case measure => simp [intOf]
          · go_wp2
            go_ret
            exact ⟨by rw [GOOD.out, HF.out.1 (by omega), HF.out.2.1 (by omega), HF.out.2.2.1 (by omega), HF.out.2.2.2 (by omega)]; rfl, HB2.out⟩
end Go.Proofs.Ytnajmemcdipknaa.PK
namespace Go.Proofs.Ytnajmemcdipknaa.PK
open Go.RowKit Go.Proofs.YtnajmemcdipknaaW.PrintWords Go.Proofs.YtnajmemcdipknaaW.PrintLast Go.Proofs.YtnajmemcdipknaaW.PrintMore
open Go.ChangeShapes Go.WideShapes
set_option linter.unusedVariables false
set_option linter.unusedSimpArgs false
set_option maxRecDepth 100000
theorem textL_small {t : ByteArray} (h : t.size ≤ 65536) : textL t = putL t.size ++ bytesOf t := by unfold textL; rw [if_neg (by omega)]
theorem str_text {t : ByteArray} (h : t.size ≤ 65536) : strOfNums (textL t) = strOfNums (putL t.size) ++ t := by rw [textL_small h, strOf_append, str_of_bytes]
theorem rtext_eq (t : ByteArray) (h : t.size ≤ 65536) (k : Nat) (hk : 11 ≤ k) : PC.primerref21_text.f k t = some (strOfNums (textL t)) := by
  unfold PC.primerref21_text.f
  have hp := putL_len t.size
  rw [refPut_eq t.size (by omega) k hk, Option.bind_some, if_pos (by rw [size_put]; omega), str_text h]
theorem rtexts_l0 (wd : List ByteArray) (hl : wd.length ≤ 4096) (hs : ∀ s ∈ wd, s.size ≤ 65536) (r : Nat) : ∀ (k i : Nat) (s : ByteArray), i + r = wd.length → r + 12 ≤ k → s.size ≤ 8 + 65544 * i → PC.primerref21_texts.l0 k wd s i = some (s ++ strOfNums ((wd.drop i).flatMap textL)) := by
  induction r with
  | zero =>
    intro k i s h1 hk hz
    obtain ⟨k, rfl⟩ : ∃ j, k = j + 1 := ⟨k - 1, by omega⟩
    simp only [PC.primerref21_texts.l0]
    rw [if_neg (by omega), List.drop_of_length_le (by omega)]
    have : strOfNums (([] : List ByteArray).flatMap textL) = ⟨#[]⟩ := rfl
    rw [this]
    congr 1
    apply bytesOf_inj
    rw [bytesOf_append]
    simp [bytesOf]
  | succ r ih =>
    intro k i s h1 hk hz
    obtain ⟨k, rfl⟩ : ∃ j, k = j + 1 := ⟨k - 1, by omega⟩
    have hi : i < wd.length := by omega
    have hrd : rdOf ByteArray.empty wd (i : Int) = wd[i] := by
      unfold rdOf
      rw [Int.toNat_natCast, List.getD_eq_getElem?_getD, List.getElem?_eq_getElem hi]
      rfl
    have hsz : wd[i].size ≤ 65536 := hs _ (List.getElem_mem hi)
    have htl := textL_len wd[i]
    simp only [PC.primerref21_texts.l0]
    rw [if_pos (by omega), if_pos (by omega), hrd, rtext_eq _ hsz k (by omega), Option.bind_some, if_pos (by rw [strOfNums_size]; omega), w64 _ (by omega) (by omega)]
    rw [show ((i : Int) + 1) = ((i + 1 : Nat) : Int) from rfl, ih k (i + 1) _ (by omega) (by omega) (by rw [size_app, strOfNums_size]; omega), List.drop_eq_getElem_cons hi, List.flatMap_cons, strOf_append, app_assoc]
theorem rtexts_eq (wd : List ByteArray) (hl : wd.length ≤ 4096) (hs : ∀ s ∈ wd, s.size ≤ 65536) (k : Nat) (hk : wd.length + 12 ≤ k) : PC.primerref21_texts.f k wd = some (strOfNums (textsL wd)) := by
  unfold PC.primerref21_texts.f
  have hp := putL_len wd.length
  rw [refPut_eq wd.length (by omega) k (by omega), Option.bind_some]
  have := rtexts_l0 wd hl hs wd.length k 0 (strOfNums (putL wd.length)) (by omega) hk (by rw [size_put]; omega)
  rw [show ((0 : Nat) : Int) = 0 from rfl] at this
  rw [this, List.drop_zero, ← strOf_append]
  rfl
theorem box_S {W : World} {g : Nat} {T : TypeId} {k : Int} {who nm ot tx : ByteArray} {A : Option Addr} {n cap : Nat} {a b c d : Int} (h : W.heap[g]? = some (.cells #[.int .i64 k, .string who, .string nm, .string ot, .string tx, .slice A n cap, .int .i64 a, .int .i64 b, .int .i64 c, .int .i64 d] T (0, 0))) :
    W.cell? ⟨g, 0, none⟩ = some (.int .i64 k) ∧ W.cell? ⟨g, 1, none⟩ = some (.string who) ∧ W.cell? ⟨g, 2, none⟩ = some (.string nm) ∧ W.cell? ⟨g, 3, none⟩ = some (.string ot) ∧ W.cell? ⟨g, 4, none⟩ = some (.string tx) ∧ W.cell? ⟨g, 5, none⟩ = some (.slice A n cap) :=
  ⟨(blk_cell h 0).trans rfl, (blk_cell h 1).trans rfl, (blk_cell h 2).trans rfl, (blk_cell h 3).trans rfl, (blk_cell h 4).trans rfl, (blk_cell h 5).trans rfl⟩
set_option maxHeartbeats 6400000 in
theorem rPut_calls (k : Int) (who nm ot tx : ByteArray) (A : Option Addr) (cap : Nat) (wd : List ByteArray) (a b c d : Int) (w : World) (hs1 : who.size ≤ 9223372036854775807) (hs2 : nm.size ≤ 9223372036854775807) (hs3 : ot.size ≤ 9223372036854775807) (hr : Kd.C Kd.string w A wd.length wd) (hc : wd.length ≤ cap) (hna : -9223372036854775808 ≤ a ∧ a ≤ 9223372036854775807) (hnb : -9223372036854775808 ≤ b ∧ b ≤ 9223372036854775807) (hnc : -9223372036854775808 ≤ c ∧ c ≤ 9223372036854775807) (hnd : -9223372036854775808 ≤ d ∧ d ≤ 9223372036854775807) :
    Calls Try.prog 17 #[.agg #[.int .i64 k, .string who, .string nm, .string ot, .string tx, .slice A wd.length cap, .int .i64 a, .int .i64 b, .int .i64 c, .int .i64 d]] w fun e w' => e = .returned (.string (putC k who nm ot tx wd a b c d)) ∧ Below w.heap.size w w' := by
  have hu := Try.underlying29
  have HR := Aside0.mk hr
  have HC := Aside0.mk hc
  clear hr hc
  have HB1 := Aside0.mk (below_alloc (Below.refl w.heap.size w) (.cells #[.int .i64 k, .string who, .string nm, .string ot, .string tx, .slice A wd.length cap, .int .i64 a, .int .i64 b, .int .i64 c, .int .i64 d] 29))
  have hs1' : (w.alloc (.cells #[.int .i64 k, .string who, .string nm, .string ot, .string tx, .slice A wd.length cap, .int .i64 a, .int .i64 b, .int .i64 c, .int .i64 d] 29)).heap.size = w.heap.size + 1 := by simp
  have BX1 := Aside0.mk (heap_alloc_new w (.cells #[.int .i64 k, .string who, .string nm, .string ot, .string tx, .slice A wd.length cap, .int .i64 a, .int .i64 b, .int .i64 c, .int .i64 d] 29))
  have HS1' := Aside0.mk hs1'
  clear hs1'
  obtain ⟨gd, hgd⟩ : ∃ gd, goodC k who nm ot tx wd a b c d = gd := ⟨_, rfl⟩
  have HG := Aside0.mk hgd
  cases gd
  · have HPC : Aside0 (putC k who nm ot tx wd a b c d = ⟨#[]⟩) := ⟨by unfold putC; rw [hgd]; rfl⟩
    clear hgd
    go_enter Try.func17, Try.ntmps17
    go_wp2_with fail
    refine (rGood_calls k who nm ot tx A cap wd a b c d _ hs1 hs2 hs3 (Kd.C_below HR.out HB1.out) HC.out hna hnb hnc hnd).mono ?_
    rintro e w2 ⟨rfl, hb2⟩
    have HB2 := Aside0.mk (below_then HB1.out HB1.out.size hb2)
    clear hb2
    rw [HG.out]
    go_wp2
    go_ret
    exact ⟨by rw [HPC.out]; rfl, HB2.out⟩
  · have HPC : Aside0 (putC k who nm ot tx wd a b c d = strOfNums (cmdL k who nm ot tx wd a b c d)) := ⟨by unfold putC; rw [hgd]; rfl⟩
    obtain ⟨⟨f1, f2⟩, f3, f4, f5, f6, f7, f8, _, _, _, _⟩ := good_facts hgd
    have FK : Aside0 (1 ≤ k ∧ k ≤ 18 ∧ who.size ≤ 32 ∧ nm.size ≤ 32 ∧ ot.size ≤ 32 ∧ tx.size ≤ 65536 ∧ wd.length ≤ 64) := ⟨f1, f2, f3, f4, f5, f6, f7⟩
    have FW := Aside0.mk f8
    clear hgd
    obtain ⟨S0, hS0⟩ : ∃ S, strOfNums (putL k) = S := ⟨_, rfl⟩
    obtain ⟨S1, hS1⟩ : ∃ S, strOfNums (textL who) = S := ⟨_, rfl⟩
    obtain ⟨S2, hS2⟩ : ∃ S, strOfNums (textL nm) = S := ⟨_, rfl⟩
    obtain ⟨S3, hS3⟩ : ∃ S, strOfNums (textL ot) = S := ⟨_, rfl⟩
    obtain ⟨S4, hS4⟩ : ∃ S, strOfNums (textL tx) = S := ⟨_, rfl⟩
    obtain ⟨S5, hS5⟩ : ∃ S, strOfNums (textsL wd) = S := ⟨_, rfl⟩
    have z0 : S0.size ≤ 8 := by rw [← hS0, size_put]; exact putL_len k
    have z1 : S1.size ≤ 65544 := by rw [← hS1, strOfNums_size]; exact textL_len who
    have z2 : S2.size ≤ 65544 := by rw [← hS2, strOfNums_size]; exact textL_len nm
    have z3 : S3.size ≤ 65544 := by rw [← hS3, strOfNums_size]; exact textL_len ot
    have z4 : S4.size ≤ 65544 := by rw [← hS4, strOfNums_size]; exact textL_len tx
    have z5 : S5.size ≤ 5000000 := by rw [← hS5, strOfNums_size]; have := textsL_len wd; omega
    have HS0 := Aside0.mk hS0
    have HS1 := Aside0.mk hS1
    have HS2 := Aside0.mk hS2
    have HS3 := Aside0.mk hS3
    have HS4 := Aside0.mk hS4
    have HS5 := Aside0.mk hS5
    have c1a0 : S0.size + S1.size ≤ 9223372036854775807 := by omega
    have c1a1 := eq_true c1a0
    have c1a2 : decide (S0.size + S1.size ≤ 9223372036854775807) = true := decide_eq_true c1a0
    have c1a3 : (9223372036854775807 < S0.size + S1.size) = False := eq_false (Nat.not_lt.2 c1a0)
    clear c1a0
    have c2a0 : S0.size + S1.size + S2.size ≤ 9223372036854775807 := by omega
    have c2a1 := eq_true c2a0
    have c2a2 : decide (S0.size + S1.size + S2.size ≤ 9223372036854775807) = true := decide_eq_true c2a0
    have c2a3 : (9223372036854775807 < S0.size + S1.size + S2.size) = False := eq_false (Nat.not_lt.2 c2a0)
    clear c2a0
    have c2b0 : (S0 ++ S1).size + S2.size ≤ 9223372036854775807 := by simp only [size_app]; omega
    have c2b1 := eq_true c2b0
    have c2b2 : decide ((S0 ++ S1).size + S2.size ≤ 9223372036854775807) = true := decide_eq_true c2b0
    have c2b3 : (9223372036854775807 < (S0 ++ S1).size + S2.size) = False := eq_false (Nat.not_lt.2 c2b0)
    clear c2b0
    have c3a0 : S0.size + S1.size + S2.size + S3.size ≤ 9223372036854775807 := by omega
    have c3a1 := eq_true c3a0
    have c3a2 : decide (S0.size + S1.size + S2.size + S3.size ≤ 9223372036854775807) = true := decide_eq_true c3a0
    have c3a3 : (9223372036854775807 < S0.size + S1.size + S2.size + S3.size) = False := eq_false (Nat.not_lt.2 c3a0)
    clear c3a0
    have c3b0 : ((S0 ++ S1) ++ S2).size + S3.size ≤ 9223372036854775807 := by simp only [size_app]; omega
    have c3b1 := eq_true c3b0
    have c3b2 : decide (((S0 ++ S1) ++ S2).size + S3.size ≤ 9223372036854775807) = true := decide_eq_true c3b0
    have c3b3 : (9223372036854775807 < ((S0 ++ S1) ++ S2).size + S3.size) = False := eq_false (Nat.not_lt.2 c3b0)
    clear c3b0
    have c4a0 : S0.size + S1.size + S2.size + S3.size + S4.size ≤ 9223372036854775807 := by omega
    have c4a1 := eq_true c4a0
    have c4a2 : decide (S0.size + S1.size + S2.size + S3.size + S4.size ≤ 9223372036854775807) = true := decide_eq_true c4a0
    have c4a3 : (9223372036854775807 < S0.size + S1.size + S2.size + S3.size + S4.size) = False := eq_false (Nat.not_lt.2 c4a0)
    clear c4a0
    have c4b0 : (((S0 ++ S1) ++ S2) ++ S3).size + S4.size ≤ 9223372036854775807 := by simp only [size_app]; omega
    have c4b1 := eq_true c4b0
    have c4b2 : decide ((((S0 ++ S1) ++ S2) ++ S3).size + S4.size ≤ 9223372036854775807) = true := decide_eq_true c4b0
    have c4b3 : (9223372036854775807 < (((S0 ++ S1) ++ S2) ++ S3).size + S4.size) = False := eq_false (Nat.not_lt.2 c4b0)
    clear c4b0
    have c5a0 : S0.size + S1.size + S2.size + S3.size + S4.size + S5.size ≤ 9223372036854775807 := by omega
    have c5a1 := eq_true c5a0
    have c5a2 : decide (S0.size + S1.size + S2.size + S3.size + S4.size + S5.size ≤ 9223372036854775807) = true := decide_eq_true c5a0
    have c5a3 : (9223372036854775807 < S0.size + S1.size + S2.size + S3.size + S4.size + S5.size) = False := eq_false (Nat.not_lt.2 c5a0)
    clear c5a0
    have c5b0 : ((((S0 ++ S1) ++ S2) ++ S3) ++ S4).size + S5.size ≤ 9223372036854775807 := by simp only [size_app]; omega
    have c5b1 := eq_true c5b0
    have c5b2 : decide (((((S0 ++ S1) ++ S2) ++ S3) ++ S4).size + S5.size ≤ 9223372036854775807) = true := decide_eq_true c5b0
    have c5b3 : (9223372036854775807 < ((((S0 ++ S1) ++ S2) ++ S3) ++ S4).size + S5.size) = False := eq_false (Nat.not_lt.2 c5b0)
    clear c5b0
    have HP0 : Aside0 (primerref01_Put.f 20 k = some S0) := ⟨by rw [refPut_eq k (by omega) 20 (by omega), hS0]⟩
    have HP1 : Aside0 (PC.primerref21_text.f 20 who = some S1) := ⟨by rw [rtext_eq who (by omega) 20 (by omega), hS1]⟩
    have HP2 : Aside0 (PC.primerref21_text.f 20 nm = some S2) := ⟨by rw [rtext_eq nm (by omega) 20 (by omega), hS2]⟩
    have HP3 : Aside0 (PC.primerref21_text.f 20 ot = some S3) := ⟨by rw [rtext_eq ot (by omega) 20 (by omega), hS3]⟩
    have HP4 : Aside0 (PC.primerref21_text.f 20 tx = some S4) := ⟨by rw [rtext_eq tx (by omega) 20 (by omega), hS4]⟩
    have HP5 : Aside0 (PC.primerref21_texts.f 5000 wd = some S5) := ⟨by rw [rtexts_eq wd (by omega) (fun s hs => by have := f8 s hs; omega) 5000 (by omega), hS5]⟩
    have HZ := Aside0.mk (show (((((S0 ++ S1) ++ S2) ++ S3) ++ S4) ++ S5).size ≤ 6000000 from by simp only [size_app]; omega)
    have HE : Aside0 ((((((S0 ++ S1) ++ S2) ++ S3) ++ S4) ++ S5) = strOfNums (putL k ++ textL who ++ textL nm ++ textL ot ++ textL tx ++ textsL wd)) := ⟨by rw [← hS0, ← hS1, ← hS2, ← hS3, ← hS4, ← hS5]; simp only [← strOf_append]⟩
    clear f1 f2 f3 f4 f5 f6 f7 f8 hS0 hS1 hS2 hS3 hS4 hS5 z0 z1 z2 z3 z4 z5
    go_enter Try.func17, Try.ntmps17
    go_wp2_with fail
    refine (rGood_calls k who nm ot tx A cap wd a b c d _ hs1 hs2 hs3 (Kd.C_below HR.out HB1.out) HC.out hna hnb hnc hnd).mono ?_
    rintro e w2 ⟨rfl, hb2⟩
    have HB2 := Aside0.mk (below_then HB1.out HB1.out.size hb2)
    have BX2 := Aside0.mk ((hb2.block w.heap.size (by rw [HS1'.out]; omega)).trans BX1.out)
    clear hb2 BX1 HS1'
    obtain ⟨y0, y1, y2, y3, y4, y5⟩ := box_S BX2.out
    rw [HG.out]
    go_wp2_with fail
    go_region_held3 (fun w' => w'.cell? ⟨w.heap.size, 0, none⟩ = some (.int .i64 k) ∧ w'.cell? ⟨w.heap.size, 1, none⟩ = some (.string who) ∧ w'.cell? ⟨w.heap.size, 2, none⟩ = some (.string nm) ∧ w'.cell? ⟨w.heap.size, 3, none⟩ = some (.string ot) ∧ w'.cell? ⟨w.heap.size, 4, none⟩ = some (.string tx) ∧ w'.cell? ⟨w.heap.size, 5, none⟩ = some (.slice A wd.length cap)) (first | exact box_S BX2.out | exact box_S BX3.out | exact box_S BX4.out | exact box_S BX5.out | exact box_S BX6.out | exact box_S BX7.out | exact box_S BX8.out) (first
      | (go_at_call 49; (with_reducible refine (primerref01_Put.calls 20 k S0 _ HP0.out).mono ?_); rintro e w3 ⟨rfl, hb⟩; have HB3 := Aside0.mk (below_then (by first | exact HB2.out | exact pw_below_drewN HB2.out _ | exact below_drew HB2.out) (by first | exact HB2.out.size | exact (pw_below_drewN HB2.out _).size | exact (below_drew HB2.out).size) hb); have BX3 := Aside0.mk ((hb.block w.heap.size (by exact blk_lt BX2.out)).trans BX2.out); clear hb)
      | (go_at_call 50; (with_reducible refine (PC.primerref21_text.calls 20 who S1 _ HP1.out).mono ?_); rintro e w4 ⟨rfl, hb⟩; have HB4 := Aside0.mk (below_then (by first | exact HB3.out | exact pw_below_drewN HB3.out _ | exact below_drew HB3.out) (by first | exact HB3.out.size | exact (pw_below_drewN HB3.out _).size | exact (below_drew HB3.out).size) hb); have BX4 := Aside0.mk ((hb.block w.heap.size (by exact blk_lt BX3.out)).trans BX3.out); clear hb)
      | (go_at_call 50; (with_reducible refine (PC.primerref21_text.calls 20 nm S2 _ HP2.out).mono ?_); rintro e w5 ⟨rfl, hb⟩; have HB5 := Aside0.mk (below_then (by first | exact HB4.out | exact pw_below_drewN HB4.out _ | exact below_drew HB4.out) (by first | exact HB4.out.size | exact (pw_below_drewN HB4.out _).size | exact (below_drew HB4.out).size) hb); have BX5 := Aside0.mk ((hb.block w.heap.size (by exact blk_lt BX4.out)).trans BX4.out); clear hb)
      | (go_at_call 50; (with_reducible refine (PC.primerref21_text.calls 20 ot S3 _ HP3.out).mono ?_); rintro e w6 ⟨rfl, hb⟩; have HB6 := Aside0.mk (below_then (by first | exact HB5.out | exact pw_below_drewN HB5.out _ | exact below_drew HB5.out) (by first | exact HB5.out.size | exact (pw_below_drewN HB5.out _).size | exact (below_drew HB5.out).size) hb); have BX6 := Aside0.mk ((hb.block w.heap.size (by exact blk_lt BX5.out)).trans BX5.out); clear hb)
      | (go_at_call 50; (with_reducible refine (PC.primerref21_text.calls 20 tx S4 _ HP4.out).mono ?_); rintro e w7 ⟨rfl, hb⟩; have HB7 := Aside0.mk (below_then (by first | exact HB6.out | exact pw_below_drewN HB6.out _ | exact below_drew HB6.out) (by first | exact HB6.out.size | exact (pw_below_drewN HB6.out _).size | exact (below_drew HB6.out).size) hb); have BX7 := Aside0.mk ((hb.block w.heap.size (by exact blk_lt BX6.out)).trans BX6.out); clear hb)
      | (go_at_call 51; (with_reducible refine (PC.primerref21_texts.calls 5000 A cap wd S5 _ (Kd.C_below HR.out (by first | exact HB7.out | exact pw_below_drewN HB7.out _ | exact below_drew HB7.out)) HC.out HP5.out).mono ?_); rintro e w8 ⟨rfl, hb⟩; have HB8 := Aside0.mk (below_then (by first | exact HB7.out | exact pw_below_drewN HB7.out _ | exact below_drew HB7.out) (by first | exact HB7.out.size | exact (pw_below_drewN HB7.out _).size | exact (below_drew HB7.out).size) hb); have BX8 := Aside0.mk ((hb.block w.heap.size (by exact blk_lt BX7.out)).trans BX7.out); clear hb))
    go_wp2_with fail
    go_loopw [3, 4] (fun sv i wr => ∃ j : Nat, j ≤ 4 ∧ i = .int .i64 j ∧ ∃ acc, sv = .string acc ∧ Aside0 (acc = strOfNums (putL k ++ textL who ++ textL nm ++ textL ot ++ textL tx ++ textsL wd ++ ([a, b, c, d].take j).flatMap putL)) ∧ Aside0 (acc.size ≤ 6000000 + 8 * j) ∧ Aside0 (Below w.heap.size w wr) ∧ Aside0 (wr.heap[w.heap.size]? = some (.cells #[.int .i64 k, .string who, .string nm, .string ot, .string tx, .slice A wd.length cap, .int .i64 a, .int .i64 b, .int .i64 c, .int .i64 d] 29))) (fun _ i _ => 4 - (intOf i).toNat)
    case atStart => exact ⟨0, Nat.zero_le _, rfl, _, rfl, ⟨by rw [HE.out]; simp only [List.take, List.flatMap_nil, List.append_nil]⟩, ⟨HZ.out⟩, HB8, BX8⟩
    case round =>
      obtain ⟨j, hj, rfl, acc, rfl, HAC, HACC, HB2, HX⟩ := hrel
      rcases (show j = 0 ∨ j = 1 ∨ j = 2 ∨ j = 3 ∨ j = 4 from by omega) with rfl | rfl | rfl | rfl | rfl
      · obtain ⟨S, hS⟩ : ∃ S, strOfNums (putL a) = S := ⟨_, rfl⟩
        have hsz : S.size ≤ 8 := by rw [← hS, size_put]; exact putL_len a
        have HSS := Aside0.mk hS
        clear hS
        have cs0 : acc.size + S.size ≤ 9223372036854775807 := by have := HACC.out; omega
        have cs1 := eq_true cs0
        have cs2 : decide (acc.size + S.size ≤ 9223372036854775807) = true := decide_eq_true cs0
        have cs3 : (9223372036854775807 < acc.size + S.size) = False := eq_false (Nat.not_lt.2 cs0)
        clear cs0
        have hz : wr.cell? ⟨w.heap.size, 6, none⟩ = some (.int .i64 a) := (blk_cell HX.out 6).trans rfl
        go_wp2_with (go_at_call 49; with_reducible refine (primerref01_Put.calls 20 a S _ (by rw [refPut_eq a hna 20 (by omega), HSS.out])).mono ?_; rintro e w5 ⟨rfl, hb5⟩; have HB5 := Aside0.mk (below_then HB2.out HB2.out.size hb5); have HX5 := Aside0.mk ((hb5.block w.heap.size (blk_lt HX.out)).trans HX.out); clear hb5)
        go_roundw
        case rel => exact ⟨1, by omega, rfl, acc ++ S, rfl, ⟨by rw [HAC.out, ← HSS.out, ← strOf_append]; simp only [List.take, List.flatMap_cons, List.flatMap_nil, List.append_nil, List.nil_append, List.append_assoc]⟩, ⟨by have := HACC.out; rw [size_app]; omega⟩, HB5, HX5⟩
        case measure => simp [intOf]
      · obtain ⟨S, hS⟩ : ∃ S, strOfNums (putL b) = S := ⟨_, rfl⟩
        have hsz : S.size ≤ 8 := by rw [← hS, size_put]; exact putL_len b
        have HSS := Aside0.mk hS
        clear hS
        have cs0 : acc.size + S.size ≤ 9223372036854775807 := by have := HACC.out; omega
        have cs1 := eq_true cs0
        have cs2 : decide (acc.size + S.size ≤ 9223372036854775807) = true := decide_eq_true cs0
        have cs3 : (9223372036854775807 < acc.size + S.size) = False := eq_false (Nat.not_lt.2 cs0)
        clear cs0
        have hz : wr.cell? ⟨w.heap.size, 7, none⟩ = some (.int .i64 b) := (blk_cell HX.out 7).trans rfl
        go_wp2_with (go_at_call 49; with_reducible refine (primerref01_Put.calls 20 b S _ (by rw [refPut_eq b hnb 20 (by omega), HSS.out])).mono ?_; rintro e w5 ⟨rfl, hb5⟩; have HB5 := Aside0.mk (below_then HB2.out HB2.out.size hb5); have HX5 := Aside0.mk ((hb5.block w.heap.size (blk_lt HX.out)).trans HX.out); clear hb5)
        go_roundw
        case rel => exact ⟨2, by omega, rfl, acc ++ S, rfl, ⟨by rw [HAC.out, ← HSS.out, ← strOf_append]; simp only [List.take, List.flatMap_cons, List.flatMap_nil, List.append_nil, List.nil_append, List.append_assoc]⟩, ⟨by have := HACC.out; rw [size_app]; omega⟩, HB5, HX5⟩
        case measure => simp [intOf]
      · obtain ⟨S, hS⟩ : ∃ S, strOfNums (putL c) = S := ⟨_, rfl⟩
        have hsz : S.size ≤ 8 := by rw [← hS, size_put]; exact putL_len c
        have HSS := Aside0.mk hS
        clear hS
        have cs0 : acc.size + S.size ≤ 9223372036854775807 := by have := HACC.out; omega
        have cs1 := eq_true cs0
        have cs2 : decide (acc.size + S.size ≤ 9223372036854775807) = true := decide_eq_true cs0
        have cs3 : (9223372036854775807 < acc.size + S.size) = False := eq_false (Nat.not_lt.2 cs0)
        clear cs0
        have hz : wr.cell? ⟨w.heap.size, 8, none⟩ = some (.int .i64 c) := (blk_cell HX.out 8).trans rfl
        go_wp2_with (go_at_call 49; with_reducible refine (primerref01_Put.calls 20 c S _ (by rw [refPut_eq c hnc 20 (by omega), HSS.out])).mono ?_; rintro e w5 ⟨rfl, hb5⟩; have HB5 := Aside0.mk (below_then HB2.out HB2.out.size hb5); have HX5 := Aside0.mk ((hb5.block w.heap.size (blk_lt HX.out)).trans HX.out); clear hb5)
        go_roundw
        case rel => exact ⟨3, by omega, rfl, acc ++ S, rfl, ⟨by rw [HAC.out, ← HSS.out, ← strOf_append]; simp only [List.take, List.flatMap_cons, List.flatMap_nil, List.append_nil, List.nil_append, List.append_assoc]⟩, ⟨by have := HACC.out; rw [size_app]; omega⟩, HB5, HX5⟩
        case measure => simp [intOf]
      · obtain ⟨S, hS⟩ : ∃ S, strOfNums (putL d) = S := ⟨_, rfl⟩
        have hsz : S.size ≤ 8 := by rw [← hS, size_put]; exact putL_len d
        have HSS := Aside0.mk hS
        clear hS
        have cs0 : acc.size + S.size ≤ 9223372036854775807 := by have := HACC.out; omega
        have cs1 := eq_true cs0
        have cs2 : decide (acc.size + S.size ≤ 9223372036854775807) = true := decide_eq_true cs0
        have cs3 : (9223372036854775807 < acc.size + S.size) = False := eq_false (Nat.not_lt.2 cs0)
        clear cs0
        have hz : wr.cell? ⟨w.heap.size, 9, none⟩ = some (.int .i64 d) := (blk_cell HX.out 9).trans rfl
        go_wp2_with (go_at_call 49; with_reducible refine (primerref01_Put.calls 20 d S _ (by rw [refPut_eq d hnd 20 (by omega), HSS.out])).mono ?_; rintro e w5 ⟨rfl, hb5⟩; have HB5 := Aside0.mk (below_then HB2.out HB2.out.size hb5); have HX5 := Aside0.mk ((hb5.block w.heap.size (blk_lt HX.out)).trans HX.out); clear hb5)
        go_roundw
        case rel => exact ⟨4, by omega, rfl, acc ++ S, rfl, ⟨by rw [HAC.out, ← HSS.out, ← strOf_append]; simp only [List.take, List.flatMap_cons, List.flatMap_nil, List.append_nil, List.nil_append, List.append_assoc]⟩, ⟨by have := HACC.out; rw [size_app]; omega⟩, HB5, HX5⟩
        case measure => simp [intOf]
      · have hfin : putC k who nm ot tx wd a b c d = acc := by rw [HPC.out, HAC.out]; simp only [cmdL, List.take, List.flatMap_cons, List.flatMap_nil, List.append_nil, List.nil_append, List.append_assoc]
        have HFIN := Aside0.mk hfin
        clear hfin
        go_wp2
        go_ret
        exact ⟨by rw [HFIN.out]; rfl, HB2.out⟩
end Go.Proofs.Ytnajmemcdipknaa.PK
namespace Go.Proofs.Ytnajmemcdipknaa.PK
open Go.RowKit Go.Proofs.YtnajmemcdipknaaW.PrintWords Go.Proofs.YtnajmemcdipknaaW.PrintLast Go.Proofs.YtnajmemcdipknaaW.PrintMore
open Go.ChangeShapes Go.WideShapes
set_option linter.unusedVariables false
set_option linter.unusedSimpArgs false
set_option maxRecDepth 100000
structure CmdV where
  k : Int
  who : ByteArray
  nm : ByteArray
  ot : ByteArray
  tx : ByteArray
  wd : List ByteArray
  a : Int
  b : Int
  c : Int
  d : Int
def zeroV : CmdV := ⟨0, ⟨#[]⟩, ⟨#[]⟩, ⟨#[]⟩, ⟨#[]⟩, [], 0, 0, 0, 0⟩
def rk (s : ByteArray) := inInt s 0
def r1 (s : ByteArray) := inText (rk s).2.1 (rk s).2.2
def r2 (s : ByteArray) := inText (r1 s).2.1 (r1 s).2.2
def r3 (s : ByteArray) := inText (r2 s).2.1 (r2 s).2.2
def r4 (s : ByteArray) := inText (r3 s).2.1 (r3 s).2.2
def r5 (s : ByteArray) := inTexts (r4 s).2.1 (r4 s).2.2 64
def r6 (s : ByteArray) := inInt (r5 s).2.1 (r5 s).2.2
def r7 (s : ByteArray) := inInt (r6 s).2.1 (r6 s).2.2
def r8 (s : ByteArray) := inInt (r7 s).2.1 (r7 s).2.2
def r9 (s : ByteArray) := inInt (r8 s).2.1 (r8 s).2.2
def readC (s : ByteArray) : CmdV := ⟨(rk s).1, (r1 s).1, (r2 s).1, (r3 s).1, (r4 s).1, (r5 s).1, (r6 s).1, (r7 s).1, (r8 s).1, (r9 s).1⟩
def goodV (x : CmdV) : Bool := goodC x.k x.who x.nm x.ot x.tx x.wd x.a x.b x.c x.d
def getC (s : ByteArray) : CmdV × Int :=
  if (r9 s).2.2 ≠ 0 then (zeroV, (r9 s).2.2) else if goodV (readC s) = false then (zeroV, 2) else if (r9 s).2.1.size = 0 then (readC s, 0) else (zeroV, 4)
/-- The cells of a command. -/
def cellsV (x : CmdV) (A : Option Addr) (cap : Nat) : Array Value := #[.int .i64 x.k, .string x.who, .string x.nm, .string x.ot, .string x.tx, .slice A x.wd.length cap, .int .i64 x.a, .int .i64 x.b, .int .i64 x.c, .int .i64 x.d]
/-- What a reader's walk carries: the result's block, the reader's, the command's. -/
structure GetSt (w W : World) (gr gi gc : Nat) (TC TI : TypeId) (s : ByteArray) (e : Int) (cs zs : Array Value) : Prop where
  i : W.heap[gi]? = some (.cells #[.string s, .int .i64 e] TI (0, 0))
  c : W.heap[gc]? = some (.cells cs TC (0, 0))
  r : W.heap[gr]? = some (.cells zs TC (0, 0))
  b : Below w.heap.size w W
  lr : w.heap.size ≤ gr
  li : w.heap.size ≤ gi
  lc : w.heap.size ≤ gc
  nic : gi ≠ gc
  nri : gr ≠ gi
  nrc : gr ≠ gc
section
variable {w W W' : World} {gr gi gc : Nat} {TC TI : TypeId} {s s' : ByteArray} {e e' : Int} {cs zs : Array Value}
theorem GetSt.call (h : GetSt w W gr gi gc TC TI s e cs zs) (hi : W'.heap[gi]? = some (.cells #[.string s', .int .i64 e'] TI (0, 0))) (hb : Below w.heap.size w W') (hk : KeepBut W W' gi none) : GetSt w W' gr gi gc TC TI s' e' cs zs :=
  ⟨hi, (hk.2 gc (blk_lt h.c) (fun e => h.nic e.symm) (by simp)).trans h.c, (hk.2 gr (blk_lt h.r) h.nri (by simp)).trans h.r, hb, h.lr, h.li, h.lc, h.nic, h.nri, h.nrc⟩
theorem GetSt.quiet (h : GetSt w W gr gi gc TC TI s e cs zs) (hb : Below W.heap.size W W') : GetSt w W' gr gi gc TC TI s e cs zs :=
  ⟨(hb.block gi (blk_lt h.i)).trans h.i, (hb.block gc (blk_lt h.c)).trans h.c, (hb.block gr (blk_lt h.r)).trans h.r, below_then h.b h.b.size hb, h.lr, h.li, h.lc, h.nic, h.nri, h.nrc⟩
theorem GetSt.store (h : GetSt w W gr gi gc TC TI s e cs zs) (i : Nat) (v : Value) : GetSt w (W.setCell ⟨gc, i, none⟩ v) gr gi gc TC TI s e (cs.setIfInBounds i v) zs := by
  have far : ∀ k, k ≠ gc → (W.setCell ⟨gc, i, none⟩ v).heap[k]? = W.heap[k]? := fun k hk => Below.heap_setCell W ⟨gc, i, none⟩ v k hk
  exact ⟨(far gi h.nic).trans h.i, Blk.set_ (show Blk W gc TC cs from h.c) i v, (far gr h.nrc).trans h.r, below_set h.b h.lc, h.lr, h.li, h.lc, h.nic, h.nri, h.nrc⟩
theorem row_call {T : TypeId} {base : Nat} {v : Value} {xs : List ByteArray} {cells : Array Value} (h : Kd.R Kd.string 9 W base (fun _ => True) v xs) (hi : W.heap[gi]? = some (.cells cells T (0, 0))) (hT : 9 ≠ T) (hk : KeepBut W W' gi none) : Kd.R Kd.string 9 W' base (fun _ => True) v xs :=
  Kd.R_mono (Kd.R_keep (Kd.R_types h hi (fun q hq => by
    rcases List.mem_cons.1 hq with rfl | hq
    · exact hT
    · exact absurd hq (by simp [Kd.string, Kd.scalar]))) hk (fun _ h => h.2)) (fun _ _ => trivial)
theorem row_store {T : TypeId} {base : Nat} {v : Value} {xs : List ByteArray} {cells : Array Value} (h : Kd.R Kd.string 9 W base (fun _ => True) v xs) (hc : W.heap[gc]? = some (.cells cells T (0, 0))) (hT : 9 ≠ T) (i : Nat) (u : Value) : Kd.R Kd.string 9 (W.setCell ⟨gc, i, none⟩ u) base (fun _ => True) v xs :=
  Kd.R_mono (Kd.R_far (Kd.R_types h hc (fun q hq => by
    rcases List.mem_cons.1 hq with rfl | hq
    · exact hT
    · exact absurd hq (by simp [Kd.string, Kd.scalar]))) (fun _ h => h.2) u) (fun _ _ => trivial)
end
/-- Ten cells are written. -/
theorem put10 {W : World} {g : Nat} {T : TypeId} {c0 c1 c2 c3 c4 c5 c6 c7 c8 c9 : Value} (h : W.heap[g]? = some (.cells #[c0, c1, c2, c3, c4, c5, c6, c7, c8, c9] T (0, 0))) (v0 v1 v2 v3 v4 v5 v6 v7 v8 v9 : Value) :
    ((((((((((W.setCell ⟨g, 0, none⟩ v0).setCell ⟨g, 1, none⟩ v1).setCell ⟨g, 2, none⟩ v2).setCell ⟨g, 3, none⟩ v3).setCell ⟨g, 4, none⟩ v4).setCell ⟨g, 5, none⟩ v5).setCell ⟨g, 6, none⟩ v6).setCell ⟨g, 7, none⟩ v7).setCell ⟨g, 8, none⟩ v8).setCell ⟨g, 9, none⟩ v9).heap[g]? = some (.cells #[v0, v1, v2, v3, v4, v5, v6, v7, v8, v9] T (0, 0)) := by
  have h0 : Blk (W.setCell ⟨g, 0, none⟩ v0) g T #[v0, c1, c2, c3, c4, c5, c6, c7, c8, c9] := Blk.set_ (show Blk W g T _ from h) 0 v0
  have h1 : Blk ((W.setCell ⟨g, 0, none⟩ v0).setCell ⟨g, 1, none⟩ v1) g T #[v0, v1, c2, c3, c4, c5, c6, c7, c8, c9] := Blk.set_ h0 1 v1
  have h2 : Blk (((W.setCell ⟨g, 0, none⟩ v0).setCell ⟨g, 1, none⟩ v1).setCell ⟨g, 2, none⟩ v2) g T #[v0, v1, v2, c3, c4, c5, c6, c7, c8, c9] := Blk.set_ h1 2 v2
  have h3 : Blk ((((W.setCell ⟨g, 0, none⟩ v0).setCell ⟨g, 1, none⟩ v1).setCell ⟨g, 2, none⟩ v2).setCell ⟨g, 3, none⟩ v3) g T #[v0, v1, v2, v3, c4, c5, c6, c7, c8, c9] := Blk.set_ h2 3 v3
  have h4 : Blk (((((W.setCell ⟨g, 0, none⟩ v0).setCell ⟨g, 1, none⟩ v1).setCell ⟨g, 2, none⟩ v2).setCell ⟨g, 3, none⟩ v3).setCell ⟨g, 4, none⟩ v4) g T #[v0, v1, v2, v3, v4, c5, c6, c7, c8, c9] := Blk.set_ h3 4 v4
  have h5 : Blk ((((((W.setCell ⟨g, 0, none⟩ v0).setCell ⟨g, 1, none⟩ v1).setCell ⟨g, 2, none⟩ v2).setCell ⟨g, 3, none⟩ v3).setCell ⟨g, 4, none⟩ v4).setCell ⟨g, 5, none⟩ v5) g T #[v0, v1, v2, v3, v4, v5, c6, c7, c8, c9] := Blk.set_ h4 5 v5
  have h6 : Blk (((((((W.setCell ⟨g, 0, none⟩ v0).setCell ⟨g, 1, none⟩ v1).setCell ⟨g, 2, none⟩ v2).setCell ⟨g, 3, none⟩ v3).setCell ⟨g, 4, none⟩ v4).setCell ⟨g, 5, none⟩ v5).setCell ⟨g, 6, none⟩ v6) g T #[v0, v1, v2, v3, v4, v5, v6, c7, c8, c9] := Blk.set_ h5 6 v6
  have h7 : Blk ((((((((W.setCell ⟨g, 0, none⟩ v0).setCell ⟨g, 1, none⟩ v1).setCell ⟨g, 2, none⟩ v2).setCell ⟨g, 3, none⟩ v3).setCell ⟨g, 4, none⟩ v4).setCell ⟨g, 5, none⟩ v5).setCell ⟨g, 6, none⟩ v6).setCell ⟨g, 7, none⟩ v7) g T #[v0, v1, v2, v3, v4, v5, v6, v7, c8, c9] := Blk.set_ h6 7 v7
  have h8 : Blk (((((((((W.setCell ⟨g, 0, none⟩ v0).setCell ⟨g, 1, none⟩ v1).setCell ⟨g, 2, none⟩ v2).setCell ⟨g, 3, none⟩ v3).setCell ⟨g, 4, none⟩ v4).setCell ⟨g, 5, none⟩ v5).setCell ⟨g, 6, none⟩ v6).setCell ⟨g, 7, none⟩ v7).setCell ⟨g, 8, none⟩ v8) g T #[v0, v1, v2, v3, v4, v5, v6, v7, v8, c9] := Blk.set_ h7 8 v8
  have h9 : Blk ((((((((((W.setCell ⟨g, 0, none⟩ v0).setCell ⟨g, 1, none⟩ v1).setCell ⟨g, 2, none⟩ v2).setCell ⟨g, 3, none⟩ v3).setCell ⟨g, 4, none⟩ v4).setCell ⟨g, 5, none⟩ v5).setCell ⟨g, 6, none⟩ v6).setCell ⟨g, 7, none⟩ v7).setCell ⟨g, 8, none⟩ v8).setCell ⟨g, 9, none⟩ v9) g T #[v0, v1, v2, v3, v4, v5, v6, v7, v8, v9] := Blk.set_ h8 9 v9
  exact h9
theorem put10_below {w W : World} {g : Nat} (h : Below w.heap.size w W) (hg : w.heap.size ≤ g) (v0 v1 v2 v3 v4 v5 v6 v7 v8 v9 : Value) : Below w.heap.size w ((((((((((W.setCell ⟨g, 0, none⟩ v0).setCell ⟨g, 1, none⟩ v1).setCell ⟨g, 2, none⟩ v2).setCell ⟨g, 3, none⟩ v3).setCell ⟨g, 4, none⟩ v4).setCell ⟨g, 5, none⟩ v5).setCell ⟨g, 6, none⟩ v6).setCell ⟨g, 7, none⟩ v7).setCell ⟨g, 8, none⟩ v8).setCell ⟨g, 9, none⟩ v9) :=
  (below_set (below_set (below_set (below_set (below_set (below_set (below_set (below_set (below_set (below_set h hg) hg) hg) hg) hg) hg) hg) hg) hg) hg)
theorem put10_far {W : World} {g : Nat} (v0 v1 v2 v3 v4 v5 v6 v7 v8 v9 : Value) (k : Nat) (hk : k ≠ g) : ((((((((((W.setCell ⟨g, 0, none⟩ v0).setCell ⟨g, 1, none⟩ v1).setCell ⟨g, 2, none⟩ v2).setCell ⟨g, 3, none⟩ v3).setCell ⟨g, 4, none⟩ v4).setCell ⟨g, 5, none⟩ v5).setCell ⟨g, 6, none⟩ v6).setCell ⟨g, 7, none⟩ v7).setCell ⟨g, 8, none⟩ v8).setCell ⟨g, 9, none⟩ v9).heap[k]? = W.heap[k]? := by
  simp only [Below.heap_setCell _ ⟨g, _, none⟩ _ k hk]
theorem put10_row {W : World} {g : Nat} {T : TypeId} {cells : Array Value} {base : Nat} {v : Value} {xs : List ByteArray} (h : Kd.R Kd.string 9 W base (fun _ => True) v xs) (hc : W.heap[g]? = some (.cells cells T (0, 0))) (hT : 9 ≠ T) (v0 v1 v2 v3 v4 v5 v6 v7 v8 v9 : Value) : Kd.R Kd.string 9 ((((((((((W.setCell ⟨g, 0, none⟩ v0).setCell ⟨g, 1, none⟩ v1).setCell ⟨g, 2, none⟩ v2).setCell ⟨g, 3, none⟩ v3).setCell ⟨g, 4, none⟩ v4).setCell ⟨g, 5, none⟩ v5).setCell ⟨g, 6, none⟩ v6).setCell ⟨g, 7, none⟩ v7).setCell ⟨g, 8, none⟩ v8).setCell ⟨g, 9, none⟩ v9) base (fun _ => True) v xs :=
  Kd.R_mono (Kd.R_step (Kd.R_types h hc (fun q hq => by
    rcases List.mem_cons.1 hq with rfl | hq
    · exact hT
    · exact absurd hq (by simp [Kd.string, Kd.scalar]))) (fun k hk _ => put10_far v0 v1 v2 v3 v4 v5 v6 v7 v8 v9 k hk.2)) (fun _ _ => trivial)
end Go.Proofs.Ytnajmemcdipknaa.PK
