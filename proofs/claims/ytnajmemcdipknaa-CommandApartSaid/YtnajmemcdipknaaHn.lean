/- CommandApart, the walk. Condition: none. -/
import Derived.Test.YtnajmemcdipknaaHm
namespace Go.Proofs.Ytnajmemcdipknaa.PK
open Go.RowKit Go.Proofs.YtnajmemcdipknaaW.PrintWords Go.Proofs.YtnajmemcdipknaaW.PrintLast Go.Proofs.YtnajmemcdipknaaW.PrintMore
open Go.ChangeShapes Go.WideShapes
set_option linter.unusedVariables false
set_option linter.unusedSimpArgs false
set_option maxRecDepth 100000
theorem boxes3 {W : World} {g g2 g3 : Nat} {T T2 T3 : TypeId} {c0 c1 c2 c3 c4 c5 c6 c7 c8 c9 d0 d1 d2 d3 d4 d5 d6 d7 d8 d9 e0 e1 e2 e3 e4 e5 e6 e7 e8 e9 : Value} (h : W.heap[g]? = some (.cells #[c0, c1, c2, c3, c4, c5, c6, c7, c8, c9] T (0, 0))) (h2 : W.heap[g2]? = some (.cells #[d0, d1, d2, d3, d4, d5, d6, d7, d8, d9] T2 (0, 0))) (h3 : W.heap[g3]? = some (.cells #[e0, e1, e2, e3, e4, e5, e6, e7, e8, e9] T3 (0, 0))) :
    W.cell? ⟨g, 0, none⟩ = some (c0) ∧ W.cell? ⟨g, 1, none⟩ = some (c1) ∧ W.cell? ⟨g, 2, none⟩ = some (c2) ∧ W.cell? ⟨g, 3, none⟩ = some (c3) ∧ W.cell? ⟨g, 4, none⟩ = some (c4) ∧ W.cell? ⟨g, 5, none⟩ = some (c5) ∧ W.cell? ⟨g, 6, none⟩ = some (c6) ∧ W.cell? ⟨g, 7, none⟩ = some (c7) ∧ W.cell? ⟨g, 8, none⟩ = some (c8) ∧ W.cell? ⟨g, 9, none⟩ = some (c9) ∧ W.cell? ⟨g2, 0, none⟩ = some (d0) ∧ W.cell? ⟨g2, 1, none⟩ = some (d1) ∧ W.cell? ⟨g2, 2, none⟩ = some (d2) ∧ W.cell? ⟨g2, 3, none⟩ = some (d3) ∧ W.cell? ⟨g2, 4, none⟩ = some (d4) ∧ W.cell? ⟨g2, 5, none⟩ = some (d5) ∧ W.cell? ⟨g2, 6, none⟩ = some (d6) ∧ W.cell? ⟨g2, 7, none⟩ = some (d7) ∧ W.cell? ⟨g2, 8, none⟩ = some (d8) ∧ W.cell? ⟨g2, 9, none⟩ = some (d9) ∧ W.cell? ⟨g3, 0, none⟩ = some (e0) ∧ W.cell? ⟨g3, 1, none⟩ = some (e1) ∧ W.cell? ⟨g3, 2, none⟩ = some (e2) ∧ W.cell? ⟨g3, 3, none⟩ = some (e3) ∧ W.cell? ⟨g3, 4, none⟩ = some (e4) ∧ W.cell? ⟨g3, 5, none⟩ = some (e5) ∧ W.cell? ⟨g3, 6, none⟩ = some (e6) ∧ W.cell? ⟨g3, 7, none⟩ = some (e7) ∧ W.cell? ⟨g3, 8, none⟩ = some (e8) ∧ W.cell? ⟨g3, 9, none⟩ = some (e9) := by
  refine ⟨?_, ?_, ?_, ?_, ?_, ?_, ?_, ?_, ?_, ?_, ?_, ?_, ?_, ?_, ?_, ?_, ?_, ?_, ?_, ?_, ?_, ?_, ?_, ?_, ?_, ?_, ?_, ?_, ?_, ?_⟩ <;> first | exact (blk_cell h _).trans rfl | exact (blk_cell h2 _).trans rfl | exact (blk_cell h3 _).trans rfl
section
variable (k : Int) (who nm ot tx : ByteArray) (wd : List ByteArray) (a b c d : Int) (k2 : Int) (who2 nm2 ot2 tx2 : ByteArray) (wd2 : List ByteArray) (a2 b2 c2 d2 : Int)
theorem same21_gen (A B : Option Addr) (ca cb : Nat) (w : World) (hA : Kd.C Kd.string w A wd.length wd) (hca : wd.length ≤ ca) (hB : Kd.C Kd.string w B wd2.length wd2) (hcb : wd2.length ≤ cb) (r : Bool) (h : sameV ⟨k, who, nm, ot, tx, wd, a, b, c, d⟩ ⟨k2, who2, nm2, ot2, tx2, wd2, a2, b2, c2, d2⟩ = r) :
    Calls Try.prog 19 #[.agg #[.int .i64 k, .string who, .string nm, .string ot, .string tx, .slice A wd.length ca, .int .i64 a, .int .i64 b, .int .i64 c, .int .i64 d], .agg #[.int .i64 k2, .string who2, .string nm2, .string ot2, .string tx2, .slice B wd2.length cb, .int .i64 a2, .int .i64 b2, .int .i64 c2, .int .i64 d2]] w fun e w' => e = .returned (.bool r) ∧ Below w.heap.size w w' := by
  have hh := same21_calls ⟨k, who, nm, ot, tx, wd, a, b, c, d⟩ ⟨k2, who2, nm2, ot2, tx2, wd2, a2, b2, c2, d2⟩ A B ca cb w hA hca hB hcb
  rw [h] at hh
  exact hh
theorem put_apart (h : goodC k who nm ot tx wd a b c d = true) (h2 : goodC k2 who2 nm2 ot2 tx2 wd2 a2 b2 c2 d2 = true) : ((putC k who nm ot tx wd a b c d).toList == (putC k2 who2 nm2 ot2 tx2 wd2 a2 b2 c2 d2).toList) = sameV ⟨k, who, nm, ot, tx, wd, a, b, c, d⟩ ⟨k2, who2, nm2, ot2, tx2, wd2, a2, b2, c2, d2⟩ := by
  rw [Bool.eq_iff_iff, sameV_iff, beq_iff_eq, toList_iff]
  constructor
  · intro e
    have h3 := get_put_cmd _ _ _ _ _ _ _ _ _ _ h
    have h4 := get_put_cmd _ _ _ _ _ _ _ _ _ _ h2
    rw [e, h4] at h3
    exact (Prod.mk.inj h3).1.symm
  · intro e
    injection e with e0 e1 e2 e3 e4 e5 e6 e7 e8 e9
    subst e0; subst e1; subst e2; subst e3; subst e4; subst e5; subst e6; subst e7; subst e8; subst e9
    rfl
end
set_option maxHeartbeats 12800000 in
theorem apart21_calls (k : Int) (who nm ot tx : ByteArray) (A : Option Addr) (cap : Nat) (wd : List ByteArray) (a b c d : Int) (k2 : Int) (who2 nm2 ot2 tx2 : ByteArray) (A2 : Option Addr) (cap2 : Nat) (wd2 : List ByteArray) (a2 b2 c2 d2 : Int) (w : World)
    (hr : Kd.C Kd.string w A wd.length wd) (hc : wd.length ≤ cap) (hs : who.size ≤ 9223372036854775807 ∧ nm.size ≤ 9223372036854775807 ∧ ot.size ≤ 9223372036854775807)
    (hr2 : Kd.C Kd.string w A2 wd2.length wd2) (hc2 : wd2.length ≤ cap2) (hs2 : who2.size ≤ 9223372036854775807 ∧ nm2.size ≤ 9223372036854775807 ∧ ot2.size ≤ 9223372036854775807) :
    Calls Try.prog 5 #[.agg #[.int .i64 k, .string who, .string nm, .string ot, .string tx, .slice A wd.length cap, .int .i64 a, .int .i64 b, .int .i64 c, .int .i64 d], .agg #[.int .i64 k2, .string who2, .string nm2, .string ot2, .string tx2, .slice A2 wd2.length cap2, .int .i64 a2, .int .i64 b2, .int .i64 c2, .int .i64 d2]] w fun e w' => e = .returned (.bool true) ∧ Below w.heap.size w w' := by
  have hu := Try.underlying25
  have hu2 := Try.underlying28
  have hu3 := Try.underlying29
  have HR := Aside0.mk hr
  have HC := Aside0.mk hc
  have HSZ := Aside0.mk hs
  have HRY := Aside0.mk hr2
  have HCY := Aside0.mk hc2
  have HSY := Aside0.mk hs2
  clear hr hc hs hr2 hc2 hs2
  have HB0 := Aside0.mk (below_alloc (below_alloc (Below.refl w.heap.size w) (.cells #[.int .i64 k, .string who, .string nm, .string ot, .string tx, .slice A wd.length cap, .int .i64 a, .int .i64 b, .int .i64 c, .int .i64 d] 25)) (.cells #[.int .i64 k2, .string who2, .string nm2, .string ot2, .string tx2, .slice A2 wd2.length cap2, .int .i64 a2, .int .i64 b2, .int .i64 c2, .int .i64 d2] 25))
  have HX0 : Aside0 (((w.alloc (.cells #[.int .i64 k, .string who, .string nm, .string ot, .string tx, .slice A wd.length cap, .int .i64 a, .int .i64 b, .int .i64 c, .int .i64 d] 25)).alloc (.cells #[.int .i64 k2, .string who2, .string nm2, .string ot2, .string tx2, .slice A2 wd2.length cap2, .int .i64 a2, .int .i64 b2, .int .i64 c2, .int .i64 d2] 25)).heap[w.heap.size]? = some (.cells #[.int .i64 k, .string who, .string nm, .string ot, .string tx, .slice A wd.length cap, .int .i64 a, .int .i64 b, .int .i64 c, .int .i64 d] 25 (0, 0))) := ⟨(heap_alloc_old _ _ (by simp)).trans (heap_new' rfl)⟩
  have HY0 : Aside0 (((w.alloc (.cells #[.int .i64 k, .string who, .string nm, .string ot, .string tx, .slice A wd.length cap, .int .i64 a, .int .i64 b, .int .i64 c, .int .i64 d] 25)).alloc (.cells #[.int .i64 k2, .string who2, .string nm2, .string ot2, .string tx2, .slice A2 wd2.length cap2, .int .i64 a2, .int .i64 b2, .int .i64 c2, .int .i64 d2] 25)).heap[w.heap.size + 1]? = some (.cells #[.int .i64 k2, .string who2, .string nm2, .string ot2, .string tx2, .slice A2 wd2.length cap2, .int .i64 a2, .int .i64 b2, .int .i64 c2, .int .i64 d2] 25 (0, 0))) := ⟨heap_new' (by simp)⟩
  go_enter Try.func5, Try.ntmps5
  go_wp2_with fail
  refine (speaks21_calls _).mono ?_
  rintro e w1 ⟨rfl, hb1⟩
  have HX1 := Aside0.mk ((hb1.block _ (blk_lt HX0.out)).trans HX0.out)
  have HY1 := Aside0.mk ((hb1.block _ (blk_lt HY0.out)).trans HY0.out)
  have HB1 := Aside0.mk (below_then HB0.out HB0.out.size hb1)
  clear hb1
  obtain ⟨xa0, xa1, xa2, xa3, xa4, xa5, xa6, xa7, xa8, xa9⟩ := box10 HX1.out
  go_wp2_with fail
  refine (large21_calls k who nm ot tx A cap wd a b c d _ (Kd.C_below HR.out HB1.out) HC.out).mono ?_
  rintro e w2 ⟨rfl, hb2⟩
  have HX2 := Aside0.mk ((hb2.block _ (blk_lt HX1.out)).trans HX1.out)
  have HY2 := Aside0.mk ((hb2.block _ (blk_lt HY1.out)).trans HY1.out)
  have HB2 := Aside0.mk (below_then HB1.out HB1.out.size hb2)
  clear hb2
  cases hl : large21 who nm ot tx wd
  rotate_left
  · go_wp2
    go_ret
    exact ⟨rfl, HB2.out⟩
  have HL := Aside0.mk (large_facts hl)
  clear hl
  obtain ⟨ya0, ya1, ya2, ya3, ya4, ya5, ya6, ya7, ya8, ya9⟩ := box10 HY2.out
  go_wp2_with fail
  refine (large21_calls k2 who2 nm2 ot2 tx2 A2 cap2 wd2 a2 b2 c2 d2 _ (Kd.C_below HRY.out HB2.out) HCY.out).mono ?_
  rintro e w3 ⟨rfl, hb3⟩
  have HX3_ := Aside0.mk ((hb3.block _ (blk_lt HX2.out)).trans HX2.out)
  have HY3_ := Aside0.mk ((hb3.block _ (blk_lt HY2.out)).trans HY2.out)
  have HB3_ := Aside0.mk (below_then HB2.out HB2.out.size hb3)
  clear hb3
  cases hl : large21 who2 nm2 ot2 tx2 wd2
  rotate_left
  · go_wp2
    go_ret
    exact ⟨rfl, HB3_.out⟩
  have HLY := Aside0.mk (large_facts hl)
  clear hl
  have hlt : w.heap.size < w3.heap.size := blk_lt HX3_.out
  have HKX := Aside0.mk (Kd.C_below HR.out HB3_.out)
  have HKY := Aside0.mk (Kd.C_below HRY.out HB3_.out)
  obtain ⟨wa, rfl⟩ : ∃ wa : World, wa = w3 := ⟨_, rfl⟩
  clear HX0 HY0 HX1 HY1 HX2 HY2 HB0 HB1 HB2
  obtain ⟨xb0, xb1, xb2, xb3, xb4, xb5, xb6, xb7, xb8, xb9⟩ := box10 HX3_.out
  go_upto_region 5 with (fail)
  go_cut [5] (fun v3 wc => MadeC wa wc ⟨k, who, nm, ot, tx, wd, a, b, c, d⟩ v3)
  case first =>
    go_region_held3 (fun w' => w'.cell? ⟨w.heap.size, 0, none⟩ = some (.int .i64 k) ∧ w'.cell? ⟨w.heap.size, 1, none⟩ = some (.string who) ∧ w'.cell? ⟨w.heap.size, 2, none⟩ = some (.string nm) ∧ w'.cell? ⟨w.heap.size, 3, none⟩ = some (.string ot) ∧ w'.cell? ⟨w.heap.size, 4, none⟩ = some (.string tx) ∧ w'.cell? ⟨w.heap.size, 5, none⟩ = some (.slice A wd.length cap) ∧ w'.cell? ⟨w.heap.size, 6, none⟩ = some (.int .i64 a) ∧ w'.cell? ⟨w.heap.size, 7, none⟩ = some (.int .i64 b) ∧ w'.cell? ⟨w.heap.size, 8, none⟩ = some (.int .i64 c) ∧ w'.cell? ⟨w.heap.size, 9, none⟩ = some (.int .i64 d)) (first
      | (with_reducible exact box10 HX3.out)
      | (with_reducible exact box10 ((heap_alloc_old _ _ (blk_lt HX3.out)).trans HX3.out))
      | (with_reducible exact box10 (blk_drew HX3.out))
      | (with_reducible exact box10 (blk_drew ((heap_alloc_old _ _ (blk_lt HX3.out)).trans HX3.out)))
      | (with_reducible exact box10 ((put10_far _ _ _ _ _ _ _ _ _ _ _ (by omega)).trans HX3.out))
      | (with_reducible exact box10 ((put10_far _ _ _ _ _ _ _ _ _ _ _ (by omega)).trans (blk_drew HX3.out)))
      | go_keep)
      ((refine step_append_new (by rfl) _ _ (by rfl) wa.heap.size _ A cap wd (by rfl) (by rfl) ?_ ?_ ?_ ?_ ?_; (repeat (first | exact heap_new' (by first | rfl | simp) | (with_reducible refine (heap_drew' _ _).trans ?_) | (with_reducible refine (heap_alloc_old _ _ (by first | omega | (simp; omega) | simp)).trans ?_))); (omega); (repeat (first | exact HKX.out | apply Kd.C_alloc | apply Kd.C_drew)); (have := HL.out; omega); intro B c1 w3 hown hgr; have HX3 : Aside0 (w3.heap[w.heap.size]? = some (.cells #[.int .i64 k, .string who, .string nm, .string ot, .string tx, .slice A wd.length cap, .int .i64 a, .int .i64 b, .int .i64 c, .int .i64 d] 25 (0, 0))) := Aside0.mk (blk_grown (by (repeat (first | exact HX3_.out | (with_reducible refine (heap_drew' _ _).trans ?_) | (with_reducible refine (heap_alloc_old _ _ (by first | omega | (simp; omega))).trans ?_)))) hgr (by simp only [Option.some.injEq, ne_eq]; omega)); (first | (have HN := zfar2 hgr; have HN2 := box20 HN; have HZ := Aside0.mk HN; clear HN; obtain ⟨n0, n1, n2, n3, n4, n5, n6, n7, n8, n9, m0, m1, m2, m3, m4, m5, m6, m7, m8, m9⟩ := HN2) | (have HN := zfar3 hgr; have HN2 := box20 HN; have HZ := Aside0.mk HN; clear HN; obtain ⟨n0, n1, n2, n3, n4, n5, n6, n7, n8, n9, m0, m1, m2, m3, m4, m5, m6, m7, m8, m9⟩ := HN2) | skip); have HG := Aside0.mk (below_row (w2 := wa) (by repeat (first | exact Below.refl _ _ | (with_reducible apply below_drew) | (with_reducible apply below_alloc))) hgr (by omega)); have HOW := Aside0.mk hown; clear hgr hown))
    all_goals
      go_wp2_with fail
      go_meet
      case rel =>
        first
        | (with_reducible exact made1 HG.out HOW.out)
        | (with_reducible exact made2 HG.out HOW.out HZ.out (by omega))
  case rest =>
    obtain ⟨wm, rfl⟩ : ∃ wm : World, wm = wc := ⟨_, rfl⟩
    obtain ⟨g, B, c1, rfl, hg, hB, hcB, hbel, hle⟩ := hcut
    have HG4 : Aside0 (wm.heap[g]? = some (.cells #[.int .i64 k, .string who, .string nm, .string ot, .string tx, .slice B wd.length c1, .int .i64 a, .int .i64 b, .int .i64 c, .int .i64 d] 28 (0, 0))) := ⟨hg⟩
    have HBX : Aside0 (Kd.C Kd.string wm B wd.length wd) := ⟨hB⟩
    have HCB : Aside0 (wd.length ≤ c1) := ⟨hcB⟩
    have HY4 := Aside0.mk ((hbel.block _ (blk_lt HY3_.out)).trans HY3_.out)
    have HB4 := Aside0.mk (below_then HB3_.out HB3_.out.size hbel)
    have HKY4 := Aside0.mk (Kd.C_below HKY.out hbel)
    have hlt2 : w.heap.size + 1 < wm.heap.size := blk_lt HY4.out
    have hgl : g < wm.heap.size := blk_lt hg
    clear hg hB hcB hbel hle HX3_ HY3_
    obtain ⟨yb0, yb1, yb2, yb3, yb4, yb5, yb6, yb7, yb8, yb9⟩ := box10 HY4.out
    go_upto_region 6 with (fail)
    go_cut [6] (fun v3 wc => MadeC wm wc ⟨k2, who2, nm2, ot2, tx2, wd2, a2, b2, c2, d2⟩ v3)
    case first =>
      go_region_held3 (fun w' => w'.cell? ⟨w.heap.size + 1, 0, none⟩ = some (.int .i64 k2) ∧ w'.cell? ⟨w.heap.size + 1, 1, none⟩ = some (.string who2) ∧ w'.cell? ⟨w.heap.size + 1, 2, none⟩ = some (.string nm2) ∧ w'.cell? ⟨w.heap.size + 1, 3, none⟩ = some (.string ot2) ∧ w'.cell? ⟨w.heap.size + 1, 4, none⟩ = some (.string tx2) ∧ w'.cell? ⟨w.heap.size + 1, 5, none⟩ = some (.slice A2 wd2.length cap2) ∧ w'.cell? ⟨w.heap.size + 1, 6, none⟩ = some (.int .i64 a2) ∧ w'.cell? ⟨w.heap.size + 1, 7, none⟩ = some (.int .i64 b2) ∧ w'.cell? ⟨w.heap.size + 1, 8, none⟩ = some (.int .i64 c2) ∧ w'.cell? ⟨w.heap.size + 1, 9, none⟩ = some (.int .i64 d2)) (first
        | (with_reducible exact box10 HX3.out)
        | (with_reducible exact box10 ((heap_alloc_old _ _ (blk_lt HX3.out)).trans HX3.out))
        | (with_reducible exact box10 (blk_drew HX3.out))
        | (with_reducible exact box10 (blk_drew ((heap_alloc_old _ _ (blk_lt HX3.out)).trans HX3.out)))
        | (with_reducible exact box10 ((put10_far _ _ _ _ _ _ _ _ _ _ _ (by omega)).trans HX3.out))
        | (with_reducible exact box10 ((put10_far _ _ _ _ _ _ _ _ _ _ _ (by omega)).trans (blk_drew HX3.out)))
        | go_keep)
        ((refine step_append_new (by rfl) _ _ (by rfl) wm.heap.size _ A2 cap2 wd2 (by rfl) (by rfl) ?_ ?_ ?_ ?_ ?_; (repeat (first | exact heap_new' (by first | rfl | simp) | (with_reducible refine (heap_drew' _ _).trans ?_) | (with_reducible refine (heap_alloc_old _ _ (by first | omega | (simp; omega) | simp)).trans ?_))); (omega); (repeat (first | exact HKY4.out | apply Kd.C_alloc | apply Kd.C_drew)); (have := HLY.out; omega); intro B c1 w3 hown hgr; have HX3 : Aside0 (w3.heap[w.heap.size + 1]? = some (.cells #[.int .i64 k2, .string who2, .string nm2, .string ot2, .string tx2, .slice A2 wd2.length cap2, .int .i64 a2, .int .i64 b2, .int .i64 c2, .int .i64 d2] 25 (0, 0))) := Aside0.mk (blk_grown (by (repeat (first | exact HY4.out | (with_reducible refine (heap_drew' _ _).trans ?_) | (with_reducible refine (heap_alloc_old _ _ (by first | omega | (simp; omega))).trans ?_)))) hgr (by simp only [Option.some.injEq, ne_eq]; omega)); (first | (have HN := zfar2 hgr; have HN2 := box20 HN; have HZ := Aside0.mk HN; clear HN; obtain ⟨n0, n1, n2, n3, n4, n5, n6, n7, n8, n9, m0, m1, m2, m3, m4, m5, m6, m7, m8, m9⟩ := HN2) | (have HN := zfar3 hgr; have HN2 := box20 HN; have HZ := Aside0.mk HN; clear HN; obtain ⟨n0, n1, n2, n3, n4, n5, n6, n7, n8, n9, m0, m1, m2, m3, m4, m5, m6, m7, m8, m9⟩ := HN2) | skip); have HG := Aside0.mk (below_row (w2 := wm) (by repeat (first | exact Below.refl _ _ | (with_reducible apply below_drew) | (with_reducible apply below_alloc))) hgr (by omega)); have HOW := Aside0.mk hown; clear hgr hown))
      all_goals
        go_wp2_with fail
        go_meet
        case rel =>
          first
          | (with_reducible exact made1 HG.out HOW.out)
          | (with_reducible exact made2 HG.out HOW.out HZ.out (by omega))
    case rest =>
      obtain ⟨wk, rfl⟩ : ∃ wk : World, wk = wc := ⟨_, rfl⟩
      obtain ⟨g2, B2, c2', rfl, hg, hB, hcB, hbel, hle⟩ := hcut
      have HH5 : Aside0 (wk.heap[g2]? = some (.cells #[.int .i64 k2, .string who2, .string nm2, .string ot2, .string tx2, .slice B2 wd2.length c2', .int .i64 a2, .int .i64 b2, .int .i64 c2, .int .i64 d2] 28 (0, 0))) := ⟨hg⟩
      have HBY : Aside0 (Kd.C Kd.string wk B2 wd2.length wd2) := ⟨hB⟩
      have HCB2 : Aside0 (wd2.length ≤ c2') := ⟨hcB⟩
      have HG5 := Aside0.mk ((hbel.block _ hgl).trans HG4.out)
      have HY5 := Aside0.mk ((hbel.block _ hlt2).trans HY4.out)
      have HB5 := Aside0.mk (below_then HB4.out HB4.out.size hbel)
      have HBX5 := Aside0.mk (Kd.C_below HBX.out hbel)
      have HKY5 := Aside0.mk (Kd.C_below HKY4.out hbel)
      have hlt5 : w.heap.size + 1 < wk.heap.size := blk_lt HY5.out
      have hgl5 : g < wk.heap.size := blk_lt HG5.out
      have hhl5 : g2 < wk.heap.size := blk_lt hg
      clear hg hB hcB hbel hle HG4 HBX HY4 HB4 HKY4
      obtain ⟨ga0, ga1, ga2, ga3, ga4, ga5, ga6, ga7, ga8, ga9⟩ := box10 HG5.out
      obtain ⟨gx, hgx⟩ : ∃ gx, goodC k who nm ot tx wd a b c d = gx := ⟨_, rfl⟩
      have HGX := Aside0.mk hgx
      clear hgx
      obtain ⟨gy, hgy⟩ : ∃ gy, goodC k2 who2 nm2 ot2 tx2 wd2 a2 b2 c2 d2 = gy := ⟨_, rfl⟩
      have HGY := Aside0.mk hgy
      clear hgy
      go_wp2_with fail
      (with_reducible refine (cGood_calls k who nm ot tx B c1 wd a b c d _ HSZ.out.1 HSZ.out.2.1 HSZ.out.2.2 HBX5.out HCB.out).mono ?_)
      rintro e w6 ⟨rfl, hb6⟩
      rw [HGX.out]
      have HG6 := Aside0.mk ((hb6.block _ hgl5).trans HG5.out)
      have HH6 := Aside0.mk ((hb6.block _ hhl5).trans HH5.out)
      have HY6 := Aside0.mk ((hb6.block _ hlt5).trans HY5.out)
      have HB6 := Aside0.mk (below_then HB5.out HB5.out.size hb6)
      have HBX6 := Aside0.mk (Kd.C_below HBX5.out hb6)
      have HBY6 := Aside0.mk (Kd.C_below HBY.out hb6)
      have HKY6 := Aside0.mk (Kd.C_below HKY5.out hb6)
      clear hb6 HG5 HH5 HY5 HB5 HBX5 HBY HKY5
      cases gx
      · go_wp2
        go_ret
        exact ⟨rfl, HB6.out⟩
      obtain ⟨ha0, ha1, ha2, ha3, ha4, ha5, ha6, ha7, ha8, ha9⟩ := box10 HH6.out
      go_wp2_with fail
      (with_reducible refine (cGood_calls k2 who2 nm2 ot2 tx2 B2 c2' wd2 a2 b2 c2 d2 _ HSY.out.1 HSY.out.2.1 HSY.out.2.2 HBY6.out HCB2.out).mono ?_)
      rintro e w7 ⟨rfl, hb7⟩
      rw [HGY.out]
      have HG7 := Aside0.mk ((hb7.block _ (blk_lt HG6.out)).trans HG6.out)
      have HH7 := Aside0.mk ((hb7.block _ (blk_lt HH6.out)).trans HH6.out)
      have HY7 := Aside0.mk ((hb7.block _ (blk_lt HY6.out)).trans HY6.out)
      have HB7 := Aside0.mk (below_then HB6.out HB6.out.size hb7)
      have HBX7 := Aside0.mk (Kd.C_below HBX6.out hb7)
      have HBY7 := Aside0.mk (Kd.C_below HBY6.out hb7)
      have HKY7 := Aside0.mk (Kd.C_below HKY6.out hb7)
      clear hb7 HG6 HH6 HY6 HB6 HBX6 HBY6 HKY6
      cases gy
      · go_wp2
        go_ret
        exact ⟨rfl, HB7.out⟩
      obtain ⟨yc0, yc1, yc2, yc3, yc4, yc5, yc6, yc7, yc8, yc9⟩ := box10 HY7.out
      obtain ⟨r, hr⟩ : ∃ r, sameV ⟨k, who, nm, ot, tx, wd, a, b, c, d⟩ ⟨k2, who2, nm2, ot2, tx2, wd2, a2, b2, c2, d2⟩ = r := ⟨_, rfl⟩
      have HRR := Aside0.mk hr
      clear hr
      obtain ⟨SX, hSX⟩ : ∃ S, putC k who nm ot tx wd a b c d = S := ⟨_, rfl⟩
      obtain ⟨SY, hSY⟩ : ∃ S, putC k2 who2 nm2 ot2 tx2 wd2 a2 b2 c2 d2 = S := ⟨_, rfl⟩
      have hst : (SX.toList == SY.toList) = r := by rw [← hSX, ← hSY, put_apart _ _ _ _ _ _ _ _ _ _ _ _ _ _ _ _ _ _ _ _ HGX.out HGY.out, HRR.out]
      have HSX := Aside0.mk hSX
      have HSYY := Aside0.mk hSY
      clear hSX hSY
      have HG8 : Aside0 ((w7.alloc (.cells #[.int .i64 k2, .string who2, .string nm2, .string ot2, .string tx2, .slice A2 wd2.length cap2, .int .i64 a2, .int .i64 b2, .int .i64 c2, .int .i64 d2] 29)).heap[g]? = some (.cells #[.int .i64 k, .string who, .string nm, .string ot, .string tx, .slice B wd.length c1, .int .i64 a, .int .i64 b, .int .i64 c, .int .i64 d] 28 (0, 0))) := ⟨(heap_alloc_old _ _ (blk_lt HG7.out)).trans HG7.out⟩
      have HH8 : Aside0 ((w7.alloc (.cells #[.int .i64 k2, .string who2, .string nm2, .string ot2, .string tx2, .slice A2 wd2.length cap2, .int .i64 a2, .int .i64 b2, .int .i64 c2, .int .i64 d2] 29)).heap[g2]? = some (.cells #[.int .i64 k2, .string who2, .string nm2, .string ot2, .string tx2, .slice B2 wd2.length c2', .int .i64 a2, .int .i64 b2, .int .i64 c2, .int .i64 d2] 28 (0, 0))) := ⟨(heap_alloc_old _ _ (blk_lt HH7.out)).trans HH7.out⟩
      have HD8 : Aside0 ((w7.alloc (.cells #[.int .i64 k2, .string who2, .string nm2, .string ot2, .string tx2, .slice A2 wd2.length cap2, .int .i64 a2, .int .i64 b2, .int .i64 c2, .int .i64 d2] 29)).heap[w7.heap.size]? = some (.cells #[.int .i64 k2, .string who2, .string nm2, .string ot2, .string tx2, .slice A2 wd2.length cap2, .int .i64 a2, .int .i64 b2, .int .i64 c2, .int .i64 d2] 29 (0, 0))) := ⟨heap_new' rfl⟩
      have HB8 : Aside0 (Below w.heap.size w (w7.alloc (.cells #[.int .i64 k2, .string who2, .string nm2, .string ot2, .string tx2, .slice A2 wd2.length cap2, .int .i64 a2, .int .i64 b2, .int .i64 c2, .int .i64 d2] 29))) := ⟨below_alloc HB7.out _⟩
      have HBX8 : Aside0 (Kd.C Kd.string (w7.alloc (.cells #[.int .i64 k2, .string who2, .string nm2, .string ot2, .string tx2, .slice A2 wd2.length cap2, .int .i64 a2, .int .i64 b2, .int .i64 c2, .int .i64 d2] 29)) B wd.length wd) := ⟨Kd.C_alloc HBX7.out _⟩
      have HBY8 : Aside0 (Kd.C Kd.string (w7.alloc (.cells #[.int .i64 k2, .string who2, .string nm2, .string ot2, .string tx2, .slice A2 wd2.length cap2, .int .i64 a2, .int .i64 b2, .int .i64 c2, .int .i64 d2] 29)) B2 wd2.length wd2) := ⟨Kd.C_alloc HBY7.out _⟩
      have HKY8 : Aside0 (Kd.C Kd.string (w7.alloc (.cells #[.int .i64 k2, .string who2, .string nm2, .string ot2, .string tx2, .slice A2 wd2.length cap2, .int .i64 a2, .int .i64 b2, .int .i64 c2, .int .i64 d2] 29)) A2 wd2.length wd2) := ⟨Kd.C_alloc HKY7.out _⟩
      have HWc := Aside0.mk (Below.refl (w7.alloc (.cells #[.int .i64 k2, .string who2, .string nm2, .string ot2, .string tx2, .slice A2 wd2.length cap2, .int .i64 a2, .int .i64 b2, .int .i64 c2, .int .i64 d2] 29)).heap.size (w7.alloc (.cells #[.int .i64 k2, .string who2, .string nm2, .string ot2, .string tx2, .slice A2 wd2.length cap2, .int .i64 a2, .int .i64 b2, .int .i64 c2, .int .i64 d2] 29)))
      obtain ⟨za0, za1, za2, za3, za4, za5, za6, za7, za8, za9⟩ := box10 HG7.out
      obtain ⟨zb0, zb1, zb2, zb3, zb4, zb5, zb6, zb7, zb8, zb9⟩ := box10 HH7.out
      have hg7 : g < w7.heap.size := blk_lt HG7.out
      have hh7 : g2 < w7.heap.size := blk_lt HH7.out
      clear HG7 HH7 HY7 HB7 HBX7 HBY7 HKY7
      have hrr : (r == r) = true := by simp
      go_upto_region 10 with (fail)
      go_cut [4] (fun v4 wx => v4 = .bool true ∧ Aside0 (Below w.heap.size w wx))
      case first =>
        go_region_held3 (fun w' => w'.cell? ⟨g, 0, none⟩ = some (.int .i64 k) ∧ w'.cell? ⟨g, 1, none⟩ = some (.string who) ∧ w'.cell? ⟨g, 2, none⟩ = some (.string nm) ∧ w'.cell? ⟨g, 3, none⟩ = some (.string ot) ∧ w'.cell? ⟨g, 4, none⟩ = some (.string tx) ∧ w'.cell? ⟨g, 5, none⟩ = some (.slice B wd.length c1) ∧ w'.cell? ⟨g, 6, none⟩ = some (.int .i64 a) ∧ w'.cell? ⟨g, 7, none⟩ = some (.int .i64 b) ∧ w'.cell? ⟨g, 8, none⟩ = some (.int .i64 c) ∧ w'.cell? ⟨g, 9, none⟩ = some (.int .i64 d) ∧ w'.cell? ⟨g2, 0, none⟩ = some (.int .i64 k2) ∧ w'.cell? ⟨g2, 1, none⟩ = some (.string who2) ∧ w'.cell? ⟨g2, 2, none⟩ = some (.string nm2) ∧ w'.cell? ⟨g2, 3, none⟩ = some (.string ot2) ∧ w'.cell? ⟨g2, 4, none⟩ = some (.string tx2) ∧ w'.cell? ⟨g2, 5, none⟩ = some (.slice B2 wd2.length c2') ∧ w'.cell? ⟨g2, 6, none⟩ = some (.int .i64 a2) ∧ w'.cell? ⟨g2, 7, none⟩ = some (.int .i64 b2) ∧ w'.cell? ⟨g2, 8, none⟩ = some (.int .i64 c2) ∧ w'.cell? ⟨g2, 9, none⟩ = some (.int .i64 d2) ∧ w'.cell? ⟨w7.heap.size, 0, none⟩ = some (.int .i64 k2) ∧ w'.cell? ⟨w7.heap.size, 1, none⟩ = some (.string who2) ∧ w'.cell? ⟨w7.heap.size, 2, none⟩ = some (.string nm2) ∧ w'.cell? ⟨w7.heap.size, 3, none⟩ = some (.string ot2) ∧ w'.cell? ⟨w7.heap.size, 4, none⟩ = some (.string tx2) ∧ w'.cell? ⟨w7.heap.size, 5, none⟩ = some (.slice A2 wd2.length cap2) ∧ w'.cell? ⟨w7.heap.size, 6, none⟩ = some (.int .i64 a2) ∧ w'.cell? ⟨w7.heap.size, 7, none⟩ = some (.int .i64 b2) ∧ w'.cell? ⟨w7.heap.size, 8, none⟩ = some (.int .i64 c2) ∧ w'.cell? ⟨w7.heap.size, 9, none⟩ = some (.int .i64 d2)) (first | (with_reducible exact boxes3 ((HWc.out.block g (blk_lt HG8.out)).trans HG8.out) ((HWc.out.block g2 (blk_lt HH8.out)).trans HH8.out) ((HWc.out.block w7.heap.size (blk_lt HD8.out)).trans HD8.out)) | (with_reducible exact boxes3 (blk_drew ((HWc.out.block g (blk_lt HG8.out)).trans HG8.out)) (blk_drew ((HWc.out.block g2 (blk_lt HH8.out)).trans HH8.out)) (blk_drew ((HWc.out.block w7.heap.size (blk_lt HD8.out)).trans HD8.out))) | go_keep) (first
          | (go_at_call 14; (with_reducible refine (cPut_calls k who nm ot tx B c1 wd a b c d _ HSZ.out.1 HSZ.out.2.1 HSZ.out.2.2 (Kd.C_below HBX8.out (by first | exact HWc.out | exact below_drew HWc.out | exact pw_below_drewN HWc.out _)) HCB.out).mono ?_); rintro e w9 ⟨rfl, hb5⟩; rw [HSX.out]; have HWn := Aside0.mk (below_then (by first | exact HWc.out | exact below_drew HWc.out | exact pw_below_drewN HWc.out _) (by first | exact HWc.out.size | exact (below_drew HWc.out).size | exact (pw_below_drewN HWc.out _).size) hb5); clear HWc hb5; have HWc := HWn; clear HWn)
          | (go_at_call 14; (with_reducible refine (cPut_calls k2 who2 nm2 ot2 tx2 B2 c2' wd2 a2 b2 c2 d2 _ HSY.out.1 HSY.out.2.1 HSY.out.2.2 (Kd.C_below HBY8.out (by first | exact HWc.out | exact below_drew HWc.out | exact pw_below_drewN HWc.out _)) HCB2.out).mono ?_); rintro e w9 ⟨rfl, hb5⟩; rw [HSYY.out]; have HWn := Aside0.mk (below_then (by first | exact HWc.out | exact below_drew HWc.out | exact pw_below_drewN HWc.out _) (by first | exact HWc.out.size | exact (below_drew HWc.out).size | exact (pw_below_drewN HWc.out _).size) hb5); clear HWc hb5; have HWc := HWn; clear HWn)
          | (go_at_call 19; (with_reducible refine (same21_gen k who nm ot tx wd a b c d k2 who2 nm2 ot2 tx2 wd2 a2 b2 c2 d2 B A2 c1 cap2 _ (Kd.C_below HBX8.out (by first | exact HWc.out | exact below_drew HWc.out | exact pw_below_drewN HWc.out _)) HCB.out (Kd.C_below HKY8.out (by first | exact HWc.out | exact below_drew HWc.out | exact pw_below_drewN HWc.out _)) HCY.out r HRR.out).mono ?_); rintro e w9 ⟨rfl, hb5⟩; have HWn := Aside0.mk (below_then (by first | exact HWc.out | exact below_drew HWc.out | exact pw_below_drewN HWc.out _) (by first | exact HWc.out.size | exact (below_drew HWc.out).size | exact (pw_below_drewN HWc.out _).size) hb5); clear HWc hb5; have HWc := HWn; clear HWn))
        all_goals
          go_wp2_with fail
          go_meet
          case rel => exact ⟨rfl, ⟨below_then HB8.out HB8.out.size (by first | exact HWc.out | exact below_drew HWc.out | exact pw_below_drewN HWc.out _)⟩⟩
      case rest =>
        obtain ⟨rfl, HBZ⟩ := hcut
        go_wp2
        go_ret
        exact ⟨rfl, HBZ.out⟩
end Go.Proofs.Ytnajmemcdipknaa.PK
