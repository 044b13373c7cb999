/- primerlaw21.replies, the walk. Condition: none. -/
import Derived.Test.YtnajmemcdipknaaLh
namespace Go.Proofs.Ytnajmemcdipknaa.PK
open Go.RowKit Go.Proofs.YtnajmemcdipknaaW.PrintWords Go.Proofs.YtnajmemcdipknaaW.PrintLast Go.Proofs.YtnajmemcdipknaaW.PrintMore
open Go.ChangeShapes Go.WideShapes
set_option linter.unusedVariables false
set_option linter.unusedSimpArgs false
set_option maxRecDepth 100000
set_option maxHeartbeats 12800000 in
theorem replies_calls (code line col cnt : Int) (tx : ByteArray) (A : Option Addr) (cap : Nat) (ts : List ByteArray) (U : Option Addr) (capu : Nat) (us : List Int) (w : World) (hA : Kd.C Kd.string w A ts.length ts) (hca : ts.length ≤ cap) (hU : Kd.C (Kd.int .u64) w U us.length us) (hx : tx.size ≤ 9223372036854775807) (hs : ∀ s ∈ ts, s.size ≤ 9223372036854775807) (hus : ∀ u ∈ us, 0 ≤ u ∧ u < 18446744073709551616) :
    Calls Try.prog 34 #[.agg #[.int .i64 code, .int .i64 line, .int .i64 col, .int .i64 cnt, .string tx, .slice A ts.length cap, .slice U us.length capu]] w (ToldA code line col cnt (cutS 2000 tx) (ansT ts) (ansM us) w) := by
  have hu := Try.underlying44
  have hu2 := Try.underlying48
  have hu3 := Try.underlying81
  have HA := Aside0.mk hA
  have HU := Aside0.mk hU
  have HS := Aside0.mk hs
  have HUS := Aside0.mk hus
  clear hA hU hs hus
  have HBX : Aside0 ((((w.alloc (.cells #[.int .i64 code, .int .i64 line, .int .i64 col, .int .i64 cnt, .string tx, .slice A ts.length cap, .slice U us.length capu] 81)).alloc (.cells #[.int .i64 0, .int .i64 0, .int .i64 0, .int .i64 0, .string ⟨#[]⟩, .slice none 0 0, .slice none 0 0] 44)).alloc (.cells #[.int .i64 0, .int .i64 0, .int .i64 0, .int .i64 0, .string ⟨#[]⟩, .slice none 0 0, .slice none 0 0] 48)).heap[w.heap.size]? = some (.cells #[.int .i64 code, .int .i64 line, .int .i64 col, .int .i64 cnt, .string tx, .slice A ts.length cap, .slice U us.length capu] 81 (0, 0))) := ⟨(heap_alloc_old _ _ (by first | (simp; done) | (simp; omega))).trans ((heap_alloc_old _ _ (by simp)).trans (heap_new' rfl))⟩
  obtain ⟨T, hT⟩ : ∃ T, cutS 2000 tx = T := ⟨_, rfl⟩
  obtain ⟨xs, hxs⟩ : ∃ xs, ansT ts = xs := ⟨_, rfl⟩
  obtain ⟨ys, hys⟩ : ∃ ys, ansM us = ys := ⟨_, rfl⟩
  rw [hT, hxs, hys]
  have HXS := Aside0.mk hxs
  have HYS := Aside0.mk hys
  have hlen : xs.length = min ts.length 50 := by rw [← hxs]; unfold ansT; rw [List.length_map, List.length_take]; omega
  have hlen2 : ys.length = min us.length 50 := by rw [← hys]; unfold ansM; rw [List.length_map, List.length_take]; omega
  have HLEN := Aside0.mk hlen
  have HLEN2 := Aside0.mk hlen2
  clear hlen hlen2 hxs hys
  go_enter Try.func34, Try.ntmps34
  go_upto_region 1 with (fail)
  go_cut [4] (fun v4 wc => v4 = .pointer (some ⟨w.heap.size + 1 + 1 + 1, 0, none⟩) ∧ Aside0 (RepSt w (wc) #[.int .i64 code, .int .i64 line, .int .i64 col, .int .i64 cnt, .string tx, .slice A ts.length cap, .slice U us.length capu] #[.int .i64 code, .int .i64 line, .int .i64 col, .int .i64 cnt, .string T, .slice none 0 0, .slice none 0 0]))
  case first =>
    by_cases h2 : tx.size ≤ 2000
    · have hm : min (tx.size : Int) 2000 = tx.size := by omega
      have hm2 : min tx.size 2000 = tx.size := by omega
      have p1 : (0 : Int) ≤ (tx.size : Int) := by omega
      have p2 : (tx.size : Int) ≤ (tx.size : Int) := by omega
      have hq : ¬ ((2000 : Int) < (tx.size : Int)) := by omega
      obtain rfl : tx = T := by rw [← hT]; unfold cutS; rw [if_pos h2]
      refine start_ (n := 18) (S := fun w' => w'.cell? ⟨w.heap.size, 0, none⟩ = some (.int .i64 code) ∧ w'.cell? ⟨w.heap.size, 1, none⟩ = some (.int .i64 line) ∧ w'.cell? ⟨w.heap.size, 2, none⟩ = some (.int .i64 col) ∧ w'.cell? ⟨w.heap.size, 3, none⟩ = some (.int .i64 cnt) ∧ w'.cell? ⟨w.heap.size, 4, none⟩ = some (.string tx)) (ds := [17]) #[false, false, false, false, false, false, false, false, false, false, false, false, false, false, false, false, false, false] (by kernel_rfl) rfl rfl ⟨(five_cells (blk_drew HBX.out)).1, (five_cells (blk_drew HBX.out)).2.1, (five_cells (blk_drew HBX.out)).2.2.1, (five_cells (blk_drew HBX.out)).2.2.2.1, (five_cells (blk_drew HBX.out)).2.2.2.2⟩ (fun hHeld => ?_)
      refine pure_ (i := 0) (N := some 8) (v := ?_) (a' := ?_) #[true, false, false, false, false, false, false, false, false, false, false, false, false, false, false, false, false, false] rfl rfl (by kernel_rfl) (fun _ _ _ h => h) (Or.inl ⟨by rfl, ?_⟩) ?_ ?_
      rotate_left
      · intro w'
        go_simp
        with_reducible rfl
      rotate_left
      · simp only [Act.put, List.setIfInBounds_toArray, List.set_cons_zero, List.set_cons_succ, i64_w, i32_w]
        rfl
      refine pure_ (i := 2) (N := some 10) (v := ?_) (a' := ?_) #[true, false, true, false, false, false, false, false, false, false, false, false, false, false, false, false, false, false] rfl rfl (by kernel_rfl) (fun _ _ _ h => h) (Or.inl ⟨by rfl, ?_⟩) ?_ ?_
      rotate_left
      · intro w'
        go_simp
        with_reducible rfl
      rotate_left
      · simp only [Act.put, List.setIfInBounds_toArray, List.set_cons_zero, List.set_cons_succ, i64_w, i32_w]
        rfl
      refine pure_ (i := 4) (N := some 12) (v := ?_) (a' := ?_) #[true, false, true, false, true, false, false, false, false, false, false, false, false, false, false, false, false, false] rfl rfl (by kernel_rfl) (fun _ _ _ h => h) (Or.inl ⟨by rfl, ?_⟩) ?_ ?_
      rotate_left
      · intro w'
        go_simp
        with_reducible rfl
      rotate_left
      · simp only [Act.put, List.setIfInBounds_toArray, List.set_cons_zero, List.set_cons_succ, i64_w, i32_w]
        rfl
      refine pure_ (i := 6) (N := some 14) (v := ?_) (a' := ?_) #[true, false, true, false, true, false, true, false, false, false, false, false, false, false, false, false, false, false] rfl rfl (by kernel_rfl) (fun _ _ _ h => h) (Or.inl ⟨by rfl, ?_⟩) ?_ ?_
      rotate_left
      · intro w'
        go_simp
        with_reducible rfl
      rotate_left
      · simp only [Act.put, List.setIfInBounds_toArray, List.set_cons_zero, List.set_cons_succ, i64_w, i32_w]
        rfl
      refine pure_ (i := 8) (N := some 16) (v := ?_) (a' := ?_) #[true, false, true, false, true, false, true, false, true, false, false, false, false, false, false, false, false, false] rfl rfl (by kernel_rfl) (fun _ _ _ h => h) (Or.inl ⟨by rfl, ?_⟩) ?_ ?_
      rotate_left
      · intro w'
        go_simp
        with_reducible rfl
      rotate_left
      · simp only [Act.put, List.setIfInBounds_toArray, List.set_cons_zero, List.set_cons_succ, i64_w, i32_w]
        rfl
      refine pure_ (i := 10) (N := some 18) (v := ?_) (a' := ?_) #[true, false, true, false, true, false, true, false, true, false, true, false, false, false, false, false, false, false] rfl rfl (by kernel_rfl) (fun _ _ _ h => h) (Or.inl ⟨by rfl, ?_⟩) ?_ ?_
      rotate_left
      · intro w'
        go_simp
        with_reducible rfl
      rotate_left
      · simp only [Act.put, List.setIfInBounds_toArray, List.set_cons_zero, List.set_cons_succ, i64_w, i32_w]
        rfl
      refine take_ (i := 1) (N := some 9) (v := ?_) (a' := ?_) #[true, true, true, false, true, false, true, false, true, false, true, false, false, false, false, false, false, false] rfl rfl (by kernel_rfl) (fun _ _ _ h => h) (Or.inl ⟨by rfl, ?_⟩) hHeld ?_ ?_
      rotate_left
      · rintro w' ⟨s0, s1, s2, s3, s4⟩
        go_simp
        with_reducible rfl
      rotate_left
      · simp only [Act.put, List.setIfInBounds_toArray, List.set_cons_zero, List.set_cons_succ, i64_w, i32_w]
        rfl
      refine take_ (i := 3) (N := some 11) (v := ?_) (a' := ?_) #[true, true, true, true, true, false, true, false, true, false, true, false, false, false, false, false, false, false] rfl rfl (by kernel_rfl) (fun _ _ _ h => h) (Or.inl ⟨by rfl, ?_⟩) hHeld ?_ ?_
      rotate_left
      · rintro w' ⟨s0, s1, s2, s3, s4⟩
        go_simp
        with_reducible rfl
      rotate_left
      · simp only [Act.put, List.setIfInBounds_toArray, List.set_cons_zero, List.set_cons_succ, i64_w, i32_w]
        rfl
      refine take_ (i := 5) (N := some 13) (v := ?_) (a' := ?_) #[true, true, true, true, true, true, true, false, true, false, true, false, false, false, false, false, false, false] rfl rfl (by kernel_rfl) (fun _ _ _ h => h) (Or.inl ⟨by rfl, ?_⟩) hHeld ?_ ?_
      rotate_left
      · rintro w' ⟨s0, s1, s2, s3, s4⟩
        go_simp
        with_reducible rfl
      rotate_left
      · simp only [Act.put, List.setIfInBounds_toArray, List.set_cons_zero, List.set_cons_succ, i64_w, i32_w]
        rfl
      refine take_ (i := 7) (N := some 15) (v := ?_) (a' := ?_) #[true, true, true, true, true, true, true, true, true, false, true, false, false, false, false, false, false, false] rfl rfl (by kernel_rfl) (fun _ _ _ h => h) (Or.inl ⟨by rfl, ?_⟩) hHeld ?_ ?_
      rotate_left
      · rintro w' ⟨s0, s1, s2, s3, s4⟩
        go_simp
        with_reducible rfl
      rotate_left
      · simp only [Act.put, List.setIfInBounds_toArray, List.set_cons_zero, List.set_cons_succ, i64_w, i32_w]
        rfl
      refine take_ (i := 9) (N := some 17) (v := ?_) (a' := ?_) #[true, true, true, true, true, true, true, true, true, true, true, false, false, false, false, false, false, false] rfl rfl (by kernel_rfl) (fun _ _ _ h => h) (Or.inl ⟨by rfl, ?_⟩) hHeld ?_ ?_
      rotate_left
      · rintro w' ⟨s0, s1, s2, s3, s4⟩
        go_simp
        with_reducible rfl
      rotate_left
      · simp only [Act.put, List.setIfInBounds_toArray, List.set_cons_zero, List.set_cons_succ, i64_w, i32_w]
        rfl
      refine take_ (i := 11) (N := some 19) (v := ?_) (a' := ?_) #[true, true, true, true, true, true, true, true, true, true, true, true, false, false, false, false, false, false] rfl rfl (by kernel_rfl) (fun _ _ _ h => h) (Or.inl ⟨by rfl, ?_⟩) hHeld ?_ ?_
      rotate_left
      · rintro w' ⟨s0, s1, s2, s3, s4⟩
        go_simp
        with_reducible rfl
      rotate_left
      · simp only [Act.put, List.setIfInBounds_toArray, List.set_cons_zero, List.set_cons_succ, i64_w, i32_w]
        rfl
      refine pure_ (i := 12) (N := some 20) (v := ?_) (a' := ?_) #[true, true, true, true, true, true, true, true, true, true, true, true, true, false, false, false, false, false] rfl rfl (by kernel_rfl) (fun _ _ _ h => h) (Or.inl ⟨by rfl, ?_⟩) ?_ ?_
      rotate_left
      · intro w'
        go_simp
        with_reducible rfl
      rotate_left
      · simp only [Act.put, List.setIfInBounds_toArray, List.set_cons_zero, List.set_cons_succ, i64_w, i32_w]
        rfl
      refine pure_ (i := 13) (N := some 21) (v := ?_) (a' := ?_) #[true, true, true, true, true, true, true, true, true, true, true, true, true, true, false, false, false, false] rfl rfl (by kernel_rfl) (fun _ _ _ h => h) (Or.inl ⟨by rfl, ?_⟩) ?_ ?_
      rotate_left
      · intro w'
        go_simp
        with_reducible rfl
      rotate_left
      · simp only [Act.put, List.setIfInBounds_toArray, List.set_cons_zero, List.set_cons_succ, i64_w, i32_w]
        rfl
      refine pure_ (i := 14) (N := some 22) (v := ?_) (a' := ?_) #[true, true, true, true, true, true, true, true, true, true, true, true, true, true, true, false, false, false] rfl rfl (by kernel_rfl) (fun _ _ _ h => h) (Or.inl ⟨by rfl, ?_⟩) ?_ ?_
      rotate_left
      · intro w'
        go_simp
        with_reducible rfl
      rotate_left
      · simp only [Act.put, List.setIfInBounds_toArray, List.set_cons_zero, List.set_cons_succ, i64_w, i32_w]
        rfl
      refine pure_ (i := 15) (N := some 23) (v := ?_) (a' := ?_) #[true, true, true, true, true, true, true, true, true, true, true, true, true, true, true, true, false, false] rfl rfl (by kernel_rfl) (fun _ _ _ h => h) (Or.inl ⟨by rfl, ?_⟩) ?_ ?_
      rotate_left
      · intro w'
        go_simp
        with_reducible rfl
      rotate_left
      · simp only [Act.put, List.setIfInBounds_toArray, List.set_cons_zero, List.set_cons_succ, i64_w, i32_w]
        rfl
      refine one_ (i := 16) (N := some 4) #[true, true, true, true, true, true, true, true, true, true, true, true, true, true, true, true, true, false] rfl rfl (by kernel_rfl) (by decide) (fun K hK => ?_)
      refine value_ (w1 := ?_) (v := ?_) (by rfl) rfl ?_ ?_
      rotate_left 2
      · go_simp
        constructor
        · rfl
        · rfl
      refine hK.out _ _ ⟨(five_cells ((heap_alloc_old _ _ (by first | (simp; done) | (simp; omega))).trans (blk_drew HBX.out))).1, (five_cells ((heap_alloc_old _ _ (by first | (simp; done) | (simp; omega))).trans (blk_drew HBX.out))).2.1, (five_cells ((heap_alloc_old _ _ (by first | (simp; done) | (simp; omega))).trans (blk_drew HBX.out))).2.2.1, (five_cells ((heap_alloc_old _ _ (by first | (simp; done) | (simp; omega))).trans (blk_drew HBX.out))).2.2.2.1, (five_cells ((heap_alloc_old _ _ (by first | (simp; done) | (simp; omega))).trans (blk_drew HBX.out))).2.2.2.2⟩ (fun hHeld => ?_)
      clear hK K
      refine norm_ (a' := ?_) ?_ ?_
      rotate_left
      · show Act.put _ (some 4) _ = _
        simp only [Act.put, List.setIfInBounds_toArray, List.set_cons_zero, List.set_cons_succ, i64_w, i32_w]
        rfl
      refine last_ (i := 17) (N := none) #[true, true, true, true, true, true, true, true, true, true, true, true, true, true, true, true, true, true] rfl rfl (by kernel_rfl) (by decide) (fun K hK => ?_)
      refine skip_ (w1 := ?_) (by rfl) rfl ?_ ?_
      rotate_left
      · go_simp
        rfl
      refine hK.out _ _ ?_
      clear hK K
      refine done_ (by kernel_rfl) ?_
      go_wp2_with fail
      go_meet
      case rel => exact ⟨rfl, ⟨by first | exact repA _ _ _ | exact (repA _ _ _).drew | exact repA1 _ _ _⟩⟩
    · have hm : min (tx.size : Int) 2000 = 2000 := by omega
      have hm2 : min tx.size 2000 = 2000 := by omega
      have p1 : (2000 : Int) ≤ (tx.size : Int) := by omega
      have hq : (2000 : Int) < (tx.size : Int) := by omega
      obtain rfl : tx.extract 0 2000 = T := by rw [← hT]; unfold cutS; rw [if_neg h2]
      refine start_ (n := 18) (S := fun w' => w'.cell? ⟨w.heap.size, 0, none⟩ = some (.int .i64 code) ∧ w'.cell? ⟨w.heap.size, 1, none⟩ = some (.int .i64 line) ∧ w'.cell? ⟨w.heap.size, 2, none⟩ = some (.int .i64 col) ∧ w'.cell? ⟨w.heap.size, 3, none⟩ = some (.int .i64 cnt) ∧ w'.cell? ⟨w.heap.size, 4, none⟩ = some (.string tx)) (ds := [17]) #[false, false, false, false, false, false, false, false, false, false, false, false, false, false, false, false, false, false] (by kernel_rfl) rfl rfl ⟨(five_cells (blk_drew HBX.out)).1, (five_cells (blk_drew HBX.out)).2.1, (five_cells (blk_drew HBX.out)).2.2.1, (five_cells (blk_drew HBX.out)).2.2.2.1, (five_cells (blk_drew HBX.out)).2.2.2.2⟩ (fun hHeld => ?_)
      refine pure_ (i := 0) (N := some 8) (v := ?_) (a' := ?_) #[true, false, false, false, false, false, false, false, false, false, false, false, false, false, false, false, false, false] rfl rfl (by kernel_rfl) (fun _ _ _ h => h) (Or.inl ⟨by rfl, ?_⟩) ?_ ?_
      rotate_left
      · intro w'
        go_simp
        with_reducible rfl
      rotate_left
      · simp only [Act.put, List.setIfInBounds_toArray, List.set_cons_zero, List.set_cons_succ, i64_w, i32_w]
        rfl
      refine pure_ (i := 2) (N := some 10) (v := ?_) (a' := ?_) #[true, false, true, false, false, false, false, false, false, false, false, false, false, false, false, false, false, false] rfl rfl (by kernel_rfl) (fun _ _ _ h => h) (Or.inl ⟨by rfl, ?_⟩) ?_ ?_
      rotate_left
      · intro w'
        go_simp
        with_reducible rfl
      rotate_left
      · simp only [Act.put, List.setIfInBounds_toArray, List.set_cons_zero, List.set_cons_succ, i64_w, i32_w]
        rfl
      refine pure_ (i := 4) (N := some 12) (v := ?_) (a' := ?_) #[true, false, true, false, true, false, false, false, false, false, false, false, false, false, false, false, false, false] rfl rfl (by kernel_rfl) (fun _ _ _ h => h) (Or.inl ⟨by rfl, ?_⟩) ?_ ?_
      rotate_left
      · intro w'
        go_simp
        with_reducible rfl
      rotate_left
      · simp only [Act.put, List.setIfInBounds_toArray, List.set_cons_zero, List.set_cons_succ, i64_w, i32_w]
        rfl
      refine pure_ (i := 6) (N := some 14) (v := ?_) (a' := ?_) #[true, false, true, false, true, false, true, false, false, false, false, false, false, false, false, false, false, false] rfl rfl (by kernel_rfl) (fun _ _ _ h => h) (Or.inl ⟨by rfl, ?_⟩) ?_ ?_
      rotate_left
      · intro w'
        go_simp
        with_reducible rfl
      rotate_left
      · simp only [Act.put, List.setIfInBounds_toArray, List.set_cons_zero, List.set_cons_succ, i64_w, i32_w]
        rfl
      refine pure_ (i := 8) (N := some 16) (v := ?_) (a' := ?_) #[true, false, true, false, true, false, true, false, true, false, false, false, false, false, false, false, false, false] rfl rfl (by kernel_rfl) (fun _ _ _ h => h) (Or.inl ⟨by rfl, ?_⟩) ?_ ?_
      rotate_left
      · intro w'
        go_simp
        with_reducible rfl
      rotate_left
      · simp only [Act.put, List.setIfInBounds_toArray, List.set_cons_zero, List.set_cons_succ, i64_w, i32_w]
        rfl
      refine pure_ (i := 10) (N := some 18) (v := ?_) (a' := ?_) #[true, false, true, false, true, false, true, false, true, false, true, false, false, false, false, false, false, false] rfl rfl (by kernel_rfl) (fun _ _ _ h => h) (Or.inl ⟨by rfl, ?_⟩) ?_ ?_
      rotate_left
      · intro w'
        go_simp
        with_reducible rfl
      rotate_left
      · simp only [Act.put, List.setIfInBounds_toArray, List.set_cons_zero, List.set_cons_succ, i64_w, i32_w]
        rfl
      refine take_ (i := 1) (N := some 9) (v := ?_) (a' := ?_) #[true, true, true, false, true, false, true, false, true, false, true, false, false, false, false, false, false, false] rfl rfl (by kernel_rfl) (fun _ _ _ h => h) (Or.inl ⟨by rfl, ?_⟩) hHeld ?_ ?_
      rotate_left
      · rintro w' ⟨s0, s1, s2, s3, s4⟩
        go_simp
        with_reducible rfl
      rotate_left
      · simp only [Act.put, List.setIfInBounds_toArray, List.set_cons_zero, List.set_cons_succ, i64_w, i32_w]
        rfl
      refine take_ (i := 3) (N := some 11) (v := ?_) (a' := ?_) #[true, true, true, true, true, false, true, false, true, false, true, false, false, false, false, false, false, false] rfl rfl (by kernel_rfl) (fun _ _ _ h => h) (Or.inl ⟨by rfl, ?_⟩) hHeld ?_ ?_
      rotate_left
      · rintro w' ⟨s0, s1, s2, s3, s4⟩
        go_simp
        with_reducible rfl
      rotate_left
      · simp only [Act.put, List.setIfInBounds_toArray, List.set_cons_zero, List.set_cons_succ, i64_w, i32_w]
        rfl
      refine take_ (i := 5) (N := some 13) (v := ?_) (a' := ?_) #[true, true, true, true, true, true, true, false, true, false, true, false, false, false, false, false, false, false] rfl rfl (by kernel_rfl) (fun _ _ _ h => h) (Or.inl ⟨by rfl, ?_⟩) hHeld ?_ ?_
      rotate_left
      · rintro w' ⟨s0, s1, s2, s3, s4⟩
        go_simp
        with_reducible rfl
      rotate_left
      · simp only [Act.put, List.setIfInBounds_toArray, List.set_cons_zero, List.set_cons_succ, i64_w, i32_w]
        rfl
      refine take_ (i := 7) (N := some 15) (v := ?_) (a' := ?_) #[true, true, true, true, true, true, true, true, true, false, true, false, false, false, false, false, false, false] rfl rfl (by kernel_rfl) (fun _ _ _ h => h) (Or.inl ⟨by rfl, ?_⟩) hHeld ?_ ?_
      rotate_left
      · rintro w' ⟨s0, s1, s2, s3, s4⟩
        go_simp
        with_reducible rfl
      rotate_left
      · simp only [Act.put, List.setIfInBounds_toArray, List.set_cons_zero, List.set_cons_succ, i64_w, i32_w]
        rfl
      refine take_ (i := 9) (N := some 17) (v := ?_) (a' := ?_) #[true, true, true, true, true, true, true, true, true, true, true, false, false, false, false, false, false, false] rfl rfl (by kernel_rfl) (fun _ _ _ h => h) (Or.inl ⟨by rfl, ?_⟩) hHeld ?_ ?_
      rotate_left
      · rintro w' ⟨s0, s1, s2, s3, s4⟩
        go_simp
        with_reducible rfl
      rotate_left
      · simp only [Act.put, List.setIfInBounds_toArray, List.set_cons_zero, List.set_cons_succ, i64_w, i32_w]
        rfl
      refine take_ (i := 11) (N := some 19) (v := ?_) (a' := ?_) #[true, true, true, true, true, true, true, true, true, true, true, true, false, false, false, false, false, false] rfl rfl (by kernel_rfl) (fun _ _ _ h => h) (Or.inl ⟨by rfl, ?_⟩) hHeld ?_ ?_
      rotate_left
      · rintro w' ⟨s0, s1, s2, s3, s4⟩
        go_simp
        with_reducible rfl
      rotate_left
      · simp only [Act.put, List.setIfInBounds_toArray, List.set_cons_zero, List.set_cons_succ, i64_w, i32_w]
        rfl
      refine pure_ (i := 12) (N := some 20) (v := ?_) (a' := ?_) #[true, true, true, true, true, true, true, true, true, true, true, true, true, false, false, false, false, false] rfl rfl (by kernel_rfl) (fun _ _ _ h => h) (Or.inl ⟨by rfl, ?_⟩) ?_ ?_
      rotate_left
      · intro w'
        go_simp
        with_reducible rfl
      rotate_left
      · simp only [Act.put, List.setIfInBounds_toArray, List.set_cons_zero, List.set_cons_succ, i64_w, i32_w]
        rfl
      refine pure_ (i := 13) (N := some 21) (v := ?_) (a' := ?_) #[true, true, true, true, true, true, true, true, true, true, true, true, true, true, false, false, false, false] rfl rfl (by kernel_rfl) (fun _ _ _ h => h) (Or.inl ⟨by rfl, ?_⟩) ?_ ?_
      rotate_left
      · intro w'
        go_simp
        with_reducible rfl
      rotate_left
      · simp only [Act.put, List.setIfInBounds_toArray, List.set_cons_zero, List.set_cons_succ, i64_w, i32_w]
        rfl
      refine pure_ (i := 14) (N := some 22) (v := ?_) (a' := ?_) #[true, true, true, true, true, true, true, true, true, true, true, true, true, true, true, false, false, false] rfl rfl (by kernel_rfl) (fun _ _ _ h => h) (Or.inl ⟨by rfl, ?_⟩) ?_ ?_
      rotate_left
      · intro w'
        go_simp
        with_reducible rfl
      rotate_left
      · simp only [Act.put, List.setIfInBounds_toArray, List.set_cons_zero, List.set_cons_succ, i64_w, i32_w]
        rfl
      refine pure_ (i := 15) (N := some 23) (v := ?_) (a' := ?_) #[true, true, true, true, true, true, true, true, true, true, true, true, true, true, true, true, false, false] rfl rfl (by kernel_rfl) (fun _ _ _ h => h) (Or.inl ⟨by rfl, ?_⟩) ?_ ?_
      rotate_left
      · intro w'
        go_simp
        with_reducible rfl
      rotate_left
      · simp only [Act.put, List.setIfInBounds_toArray, List.set_cons_zero, List.set_cons_succ, i64_w, i32_w]
        rfl
      refine one_ (i := 16) (N := some 4) #[true, true, true, true, true, true, true, true, true, true, true, true, true, true, true, true, true, false] rfl rfl (by kernel_rfl) (by decide) (fun K hK => ?_)
      refine value_ (w1 := ?_) (v := ?_) (by rfl) rfl ?_ ?_
      rotate_left 2
      · go_simp
        constructor
        · rfl
        · rfl
      refine hK.out _ _ ⟨(five_cells ((heap_alloc_old _ _ (by first | (simp; done) | (simp; omega))).trans (blk_drew HBX.out))).1, (five_cells ((heap_alloc_old _ _ (by first | (simp; done) | (simp; omega))).trans (blk_drew HBX.out))).2.1, (five_cells ((heap_alloc_old _ _ (by first | (simp; done) | (simp; omega))).trans (blk_drew HBX.out))).2.2.1, (five_cells ((heap_alloc_old _ _ (by first | (simp; done) | (simp; omega))).trans (blk_drew HBX.out))).2.2.2.1, (five_cells ((heap_alloc_old _ _ (by first | (simp; done) | (simp; omega))).trans (blk_drew HBX.out))).2.2.2.2⟩ (fun hHeld => ?_)
      clear hK K
      refine norm_ (a' := ?_) ?_ ?_
      rotate_left
      · show Act.put _ (some 4) _ = _
        simp only [Act.put, List.setIfInBounds_toArray, List.set_cons_zero, List.set_cons_succ, i64_w, i32_w]
        rfl
      refine last_ (i := 17) (N := none) #[true, true, true, true, true, true, true, true, true, true, true, true, true, true, true, true, true, true] rfl rfl (by kernel_rfl) (by decide) (fun K hK => ?_)
      refine skip_ (w1 := ?_) (by rfl) rfl ?_ ?_
      rotate_left
      · go_simp
        rfl
      refine hK.out _ _ ?_
      clear hK K
      refine done_ (by kernel_rfl) ?_
      go_wp2_with fail
      go_meet
      case rel => exact ⟨rfl, ⟨by first | exact repA _ _ _ | exact (repA _ _ _).drew | exact repA1 _ _ _⟩⟩
  case rest =>
    obtain ⟨rfl, HG0⟩ := hcut
    obtain ⟨wm, rfl⟩ : ∃ wm : World, wm = wc := ⟨_, rfl⟩
    obtain ⟨y0, y1, y2, y3, y4⟩ := five_cells HG0.out.x
    have y5 : wm.cell? ⟨w.heap.size + 1 + 1 + 1, 4, none⟩ = some (.string T) := (blk_cell HG0.out.c 4).trans rfl
    have hfar : w.heap.size + 1 + 1 + 1 < wm.heap.size := blk_lt HG0.out.c
    have HG5 : Aside0 (RepSt5 w (wm.alloc (.cells #[.int .i64 code, .int .i64 line, .int .i64 col, .int .i64 cnt, .string T, .slice none 0 0, .slice none 0 0] 48)) #[.int .i64 code, .int .i64 line, .int .i64 col, .int .i64 cnt, .string tx, .slice A ts.length cap, .slice U us.length capu] #[.int .i64 code, .int .i64 line, .int .i64 col, .int .i64 cnt, .string T, .slice none 0 0, .slice none 0 0] #[.int .i64 code, .int .i64 line, .int .i64 col, .int .i64 cnt, .string T, .slice none 0 0, .slice none 0 0] wm.heap.size) :=
      ⟨⟨⟨(heap_alloc_old _ _ (by omega)).trans HG0.out.x, (heap_alloc_old _ _ (by omega)).trans HG0.out.a, (heap_alloc_old _ _ (by omega)).trans HG0.out.b, (heap_alloc_old _ _ hfar).trans HG0.out.c, below_alloc HG0.out.lo _⟩, heap_new' rfl, hfar⟩⟩
    obtain ⟨g5, hg5⟩ : ∃ g5, wm.heap.size = g5 := ⟨_, rfl⟩
    have HG5F := Aside0.mk hg5
    have HFAR := Aside0.mk hfar
    clear hfar hg5
    go_wp2_with fail
    rw [HG5F.out] at HG5
    simp only [HG5F.out]
    obtain ⟨w5, hw5⟩ : ∃ w5, w5 = wm.alloc (.cells #[.int .i64 code, .int .i64 line, .int .i64 col, .int .i64 cnt, .string T, .slice none 0 0, .slice none 0 0] 48) := ⟨_, rfl⟩
    rw [← hw5] at HG5
    simp only [← hw5]
    clear hw5 HG5F HFAR y0 y1 y2 y3 y4 y5
    go_loopw [6] (fun i wr => ∃ j : Nat, j ≤ xs.length ∧ i = .int .i64 j ∧ ∃ B capb, Aside0 (RepSt5 w wr #[.int .i64 code, .int .i64 line, .int .i64 col, .int .i64 cnt, .string tx, .slice A ts.length cap, .slice U us.length capu] #[.int .i64 code, .int .i64 line, .int .i64 col, .int .i64 cnt, .string T, .slice B j capb, .slice none 0 0] #[.int .i64 code, .int .i64 line, .int .i64 col, .int .i64 cnt, .string T, .slice none 0 0, .slice none 0 0] g5) ∧ Aside0 (wr.ownsRow w.heap.size 9 1 (.slice B j capb) j (encs Value.string (xs.take j)))) (fun i _ => xs.length - (intOf i).toNat)
    case atStart => exact ⟨0, Nat.zero_le _, rfl, none, 0, HG5, ⟨own_nil _ _ _ _⟩⟩
    case round =>
      obtain ⟨j, hj, rfl, B, capb, HG, HO⟩ := hrel
      have hmx := HA.out.2.1
      have HLE := HLEN.out
      have zr5 : wr.cell? ⟨w.heap.size, 5, none⟩ = some (.slice A ts.length cap) := (blk_cell HG.out.x 5).trans rfl
      by_cases hje : j < xs.length
      · have hj1 : j < ts.length := by omega
        have hj2 : j < 50 := by omega
        have d1 : decide ((j : Int) < (ts.length : Int)) = true := by simp; omega
        have d2 : decide ((j : Int) < 50) = true := by simp; omega
        have d3 : decide (j < ts.length) = true := by simp; omega
        obtain ⟨ad, hAd, hcell⟩ := C_str HA.out j hj1
        have hsx : (ts[j]).size ≤ 9223372036854775807 := HS.out _ (List.getElem_mem hj1)
        have hxj : xs[j]'hje = cutS 500 ts[j] := by
          have h := HXS.out
          subst h
          simp [ansT]
        obtain ⟨x, hxx⟩ : ∃ x, ts[j] = x := ⟨_, rfl⟩
        rw [hxx] at hcell hsx hxj
        have HC0 := Aside0.mk hcell
        have hcw : wr.cell? (ad.add j) = some (.string x) := (HG.out.lo.cell (World.block_lt_of_cell? w _ hcell)).trans hcell
        have z3 : wr.cell? ⟨w.heap.size + 1 + 1 + 1, 5, none⟩ = some (.slice B j capb) := (blk_cell HG.out.c 5).trans rfl
        have f3 : wr.frozen? ⟨w.heap.size + 1 + 1 + 1, 5, none⟩ = false := blk_frozen HG.out.c 5
        have l3 : w.heap.size + 1 + 1 + 1 < wr.heap.size := blk_lt HG.out.c
        have p1 : (0 : Int) ≤ (j : Int) := by omega
        have p2 : (j : Int) < (ts.length : Int) := by omega
        have HTK : ∀ y, xs[j]'hje = y → Aside0 (xs.take (j + 1) = xs.take j ++ [y]) := fun y hy => ⟨by rw [List.take_succ_eq_append_getElem hje, hy]⟩
        have HTJ := Aside0.mk (show (xs.take j).length = j from by rw [List.length_take]; omega)
        subst hAd
        clear hxx hcell
        by_cases h5 : x.size ≤ 500
        · have hm : min (x.size : Int) 500 = x.size := by omega
          have hm2 : min x.size 500 = x.size := by omega
          have q1 : (0 : Int) ≤ (x.size : Int) := by omega
          have q2 : (x.size : Int) ≤ (x.size : Int) := by omega
          have HQ : Aside0 (¬ ((500 : Int) < (x.size : Int))) := ⟨by omega⟩
          have HTY := HTK x (by rw [hxj]; unfold cutS; rw [if_pos h5])
          clear HTK hxj h5 hj1 hj2
          go_wp2_with fail
          have hq : ¬ ((500 : Int) < (x.size : Int)) := by have := HQ.out; omega
          refine start_ (n := 19) (S := fun w' => w'.cell? ⟨w.heap.size, 5, none⟩ = some (.slice (some ad) ts.length cap) ∧ w'.cell? (ad.add j) = some (.string x) ∧ w'.cell? ⟨w.heap.size + 1 + 1 + 1, 5, none⟩ = some (.slice B j capb)) (ds := [18]) #[false, false, false, false, false, false, false, false, false, false, false, false, false, false, false, false, false, false, false] (by kernel_rfl) rfl rfl ⟨(two_cells5 (HG.out.drew) HC0.out).1, (two_cells5 (HG.out.drew) HC0.out).2, (blk_cell (HG.out.drew).c 5).trans rfl⟩ (fun hHeld => ?_)
          refine pure_ (i := 0) (N := some 46) (v := ?_) (a' := ?_) #[true, false, false, false, false, false, false, false, false, false, false, false, false, false, false, false, false, false, false] rfl rfl (by kernel_rfl) (fun _ _ _ h => h) (Or.inl ⟨by rfl, ?_⟩) ?_ ?_
          rotate_left
          · intro w'
            go_simp
            with_reducible rfl
          rotate_left
          · simp only [Act.put, List.setIfInBounds_toArray, List.set_cons_zero, List.set_cons_succ, i64_w, i32_w]
            rfl
          refine pure_ (i := 2) (N := some 48) (v := ?_) (a' := ?_) #[true, false, true, false, false, false, false, false, false, false, false, false, false, false, false, false, false, false, false] rfl rfl (by kernel_rfl) (fun _ _ _ h => h) (Or.inl ⟨by rfl, ?_⟩) ?_ ?_
          rotate_left
          · intro w'
            go_simp
            with_reducible rfl
          rotate_left
          · simp only [Act.put, List.setIfInBounds_toArray, List.set_cons_zero, List.set_cons_succ, i64_w, i32_w]
            rfl
          refine pure_ (i := 4) (N := some 50) (v := ?_) (a' := ?_) #[true, false, true, false, true, false, false, false, false, false, false, false, false, false, false, false, false, false, false] rfl rfl (by kernel_rfl) (fun _ _ _ h => h) (Or.inl ⟨by rfl, ?_⟩) ?_ ?_
          rotate_left
          · intro w'
            go_simp
            with_reducible rfl
          rotate_left
          · simp only [Act.put, List.setIfInBounds_toArray, List.set_cons_zero, List.set_cons_succ, i64_w, i32_w]
            rfl
          refine pure_ (i := 7) (N := some 53) (v := ?_) (a' := ?_) #[true, false, true, false, true, false, false, true, false, false, false, false, false, false, false, false, false, false, false] rfl rfl (by kernel_rfl) (fun _ _ _ h => h) (Or.inl ⟨by rfl, ?_⟩) ?_ ?_
          rotate_left
          · intro w'
            go_simp
            with_reducible rfl
          rotate_left
          · simp only [Act.put, List.setIfInBounds_toArray, List.set_cons_zero, List.set_cons_succ, i64_w, i32_w]
            rfl
          refine pure_ (i := 9) (N := some 55) (v := ?_) (a' := ?_) #[true, false, true, false, true, false, false, true, false, true, false, false, false, false, false, false, false, false, false] rfl rfl (by kernel_rfl) (fun _ _ _ h => h) (Or.inl ⟨by rfl, ?_⟩) ?_ ?_
          rotate_left
          · intro w'
            go_simp
            with_reducible rfl
          rotate_left
          · simp only [Act.put, List.setIfInBounds_toArray, List.set_cons_zero, List.set_cons_succ, i64_w, i32_w]
            rfl
          refine take_ (i := 1) (N := some 47) (v := ?_) (a' := ?_) #[true, true, true, false, true, false, false, true, false, true, false, false, false, false, false, false, false, false, false] rfl rfl (by kernel_rfl) (fun _ _ _ h => h) (Or.inl ⟨by rfl, ?_⟩) hHeld ?_ ?_
          rotate_left
          · rintro w' ⟨s0, s1, s2⟩
            go_simp
            with_reducible rfl
          rotate_left
          · simp only [Act.put, List.setIfInBounds_toArray, List.set_cons_zero, List.set_cons_succ, i64_w, i32_w]
            rfl
          refine take_ (i := 3) (N := some 49) (v := ?_) (a' := ?_) #[true, true, true, true, true, false, false, true, false, true, false, false, false, false, false, false, false, false, false] rfl rfl (by kernel_rfl) (fun _ _ _ h => h) (Or.inl ⟨by rfl, ?_⟩) hHeld ?_ ?_
          rotate_left
          · rintro w' ⟨s0, s1, s2⟩
            go_simp
            with_reducible rfl
          rotate_left
          · simp only [Act.put, List.setIfInBounds_toArray, List.set_cons_zero, List.set_cons_succ, i64_w, i32_w]
            rfl
          refine pure_ (i := 5) (N := some 51) (v := ?_) (a' := ?_) #[true, true, true, true, true, true, false, true, false, true, false, false, false, false, false, false, false, false, false] rfl rfl (by kernel_rfl) (fun _ _ _ h => h) (Or.inl ⟨by rfl, ?_⟩) ?_ ?_
          rotate_left
          · intro w'
            go_simp
            with_reducible rfl
          rotate_left
          · simp only [Act.put, List.setIfInBounds_toArray, List.set_cons_zero, List.set_cons_succ, i64_w, i32_w]
            rfl
          refine take_ (i := 6) (N := some 52) (v := ?_) (a' := ?_) #[true, true, true, true, true, true, true, true, false, true, false, false, false, false, false, false, false, false, false] rfl rfl (by kernel_rfl) (fun _ _ _ h => h) (Or.inl ⟨by rfl, ?_⟩) hHeld ?_ ?_
          rotate_left
          · rintro w' ⟨s0, s1, s2⟩
            go_simp
            with_reducible rfl
          rotate_left
          · simp only [Act.put, List.setIfInBounds_toArray, List.set_cons_zero, List.set_cons_succ, i64_w, i32_w]
            rfl
          refine take_ (i := 8) (N := some 54) (v := ?_) (a' := ?_) #[true, true, true, true, true, true, true, true, true, true, false, false, false, false, false, false, false, false, false] rfl rfl (by kernel_rfl) (fun _ _ _ h => h) (Or.inl ⟨by rfl, ?_⟩) hHeld ?_ ?_
          rotate_left
          · rintro w' ⟨s0, s1, s2⟩
            go_simp
            with_reducible rfl
          rotate_left
          · simp only [Act.put, List.setIfInBounds_toArray, List.set_cons_zero, List.set_cons_succ, i64_w, i32_w]
            rfl
          refine pure_ (i := 10) (N := some 56) (v := ?_) (a' := ?_) #[true, true, true, true, true, true, true, true, true, true, true, false, false, false, false, false, false, false, false] rfl rfl (by kernel_rfl) (fun _ _ _ h => h) (Or.inl ⟨by rfl, ?_⟩) ?_ ?_
          rotate_left
          · intro w'
            go_simp
            with_reducible rfl
          rotate_left
          · simp only [Act.put, List.setIfInBounds_toArray, List.set_cons_zero, List.set_cons_succ, i64_w, i32_w]
            rfl
          refine take_ (i := 11) (N := some 57) (v := ?_) (a' := ?_) #[true, true, true, true, true, true, true, true, true, true, true, true, false, false, false, false, false, false, false] rfl rfl (by kernel_rfl) (fun _ _ _ h => h) (Or.inl ⟨by rfl, ?_⟩) hHeld ?_ ?_
          rotate_left
          · rintro w' ⟨s0, s1, s2⟩
            go_simp
            with_reducible rfl
          rotate_left
          · simp only [Act.put, List.setIfInBounds_toArray, List.set_cons_zero, List.set_cons_succ, i64_w, i32_w]
            rfl
          refine pure_ (i := 12) (N := some 58) (v := ?_) (a' := ?_) #[true, true, true, true, true, true, true, true, true, true, true, true, true, false, false, false, false, false, false] rfl rfl (by kernel_rfl) (fun _ _ _ h => h) (Or.inl ⟨by rfl, ?_⟩) ?_ ?_
          rotate_left
          · intro w'
            go_simp
            with_reducible rfl
          rotate_left
          · simp only [Act.put, List.setIfInBounds_toArray, List.set_cons_zero, List.set_cons_succ, i64_w, i32_w]
            rfl
          refine pure_ (i := 13) (N := some 59) (v := ?_) (a' := ?_) #[true, true, true, true, true, true, true, true, true, true, true, true, true, true, false, false, false, false, false] rfl rfl (by kernel_rfl) (fun _ _ _ h => h) (Or.inl ⟨by rfl, ?_⟩) ?_ ?_
          rotate_left
          · intro w'
            go_simp
            with_reducible rfl
          rotate_left
          · simp only [Act.put, List.setIfInBounds_toArray, List.set_cons_zero, List.set_cons_succ, i64_w, i32_w]
            rfl
          refine pure_ (i := 14) (N := some 60) (v := ?_) (a' := ?_) #[true, true, true, true, true, true, true, true, true, true, true, true, true, true, true, false, false, false, false] rfl rfl (by kernel_rfl) (fun _ _ _ h => h) (Or.inl ⟨by rfl, ?_⟩) ?_ ?_
          rotate_left
          · intro w'
            go_simp
            with_reducible rfl
          rotate_left
          · simp only [Act.put, List.setIfInBounds_toArray, List.set_cons_zero, List.set_cons_succ, i64_w, i32_w]
            rfl
          refine one_ (i := 15) (N := some 61) #[true, true, true, true, true, true, true, true, true, true, true, true, true, true, true, true, false, false, false] rfl rfl (by kernel_rfl) (by decide) (fun K hK => ?_)
          refine value_ (w1 := ?_) (v := ?_) (by rfl) rfl ?_ ?_
          rotate_left 2
          · go_simp
            constructor
            · rfl
            · rfl
          refine hK.out _ _ ⟨(two_cells5 (HG.out.drew.alloc _) HC0.out).1, (two_cells5 (HG.out.drew.alloc _) HC0.out).2, (blk_cell (HG.out.drew.alloc _).c 5).trans rfl⟩ (fun hHeld => ?_)
          clear hK K
          refine norm_ (a' := ?_) ?_ ?_
          rotate_left
          · show Act.put _ (some 61) _ = _
            simp only [Act.put, List.setIfInBounds_toArray, List.set_cons_zero, List.set_cons_succ, i64_w, i32_w]
            rfl
          refine one_ (i := 16) (N := some 62) #[true, true, true, true, true, true, true, true, true, true, true, true, true, true, true, true, true, false, false] rfl rfl (by kernel_rfl) (by decide) (fun K hK => ?_)
          refine step_append_one (by rfl) _ _ (by rfl) Try.underlying22 info9s rfl Value.string (fun _ => rfl) w.heap.size B j capb _ (xs.take j) x (by rfl) (by rfl) ?_ ?_ ?_ ?_ ?_ ?_
          (repeat (first | exact HO.out | apply World.ownsRow.drew | apply World.ownsRow.alloc))
          (repeat (first | exact heap_new' (by first | rfl | simp) | (with_reducible refine (heap_drew' _ _).trans ?_)))
          (have := HG.out.lo.size; (first | omega | (simp; omega)))
          (omega)
          (omega)
          intro B2 c2 w6 ho hg
          have HG5 : Aside0 (RepSt5 w w6 #[.int .i64 code, .int .i64 line, .int .i64 col, .int .i64 cnt, .string tx, .slice (some ad) ts.length cap, .slice U us.length capu] #[.int .i64 code, .int .i64 line, .int .i64 col, .int .i64 cnt, .string T, .slice B j capb, .slice none 0 0] #[.int .i64 code, .int .i64 line, .int .i64 col, .int .i64 cnt, .string T, .slice none 0 0, .slice none 0 0] g5) := Aside0.mk (RepSt5.grown (by first | exact HG.out.alloc _ | exact (HG.out.alloc _).drew | exact HG.out.drew.alloc _) hg (by repeat (first | exact HO.out | apply World.ownsRow.drew | apply World.ownsRow.alloc)) (by decide) (by decide) (by decide))
          have HO5 := Aside0.mk ho
          clear ho hg
          have z6 : w6.cell? ⟨w.heap.size + 1 + 1 + 1, 5, none⟩ = some (.slice B j capb) := (blk_cell HG5.out.c 5).trans rfl
          have f6 : w6.frozen? ⟨w.heap.size + 1 + 1 + 1, 5, none⟩ = false := blk_frozen HG5.out.c 5
          refine hK.out _ _ ⟨(two_cells5 (HG5.out) HC0.out).1, (two_cells5 (HG5.out) HC0.out).2, (blk_cell (HG5.out).c 5).trans rfl⟩ (fun hHeld => ?_)
          clear hK K
          refine norm_ (a' := ?_) ?_ ?_
          rotate_left
          · show Act.put _ (some 62) _ = _
            simp only [Act.put, List.setIfInBounds_toArray, List.set_cons_zero, List.set_cons_succ, i64_w, i32_w]
            rfl
          refine pure_ (i := 17) (N := some 63) (v := ?_) (a' := ?_) #[true, true, true, true, true, true, true, true, true, true, true, true, true, true, true, true, true, true, false] rfl rfl (by kernel_rfl) (fun _ _ _ h => h) (Or.inl ⟨by rfl, ?_⟩) ?_ ?_
          rotate_left
          · intro w'
            go_simp
            with_reducible rfl
          rotate_left
          · simp only [Act.put, List.setIfInBounds_toArray, List.set_cons_zero, List.set_cons_succ, i64_w, i32_w]
            rfl
          refine last_ (i := 18) (N := none) #[true, true, true, true, true, true, true, true, true, true, true, true, true, true, true, true, true, true, true] rfl rfl (by kernel_rfl) (by decide) (fun K hK => ?_)
          refine skip_ (w1 := ?_) (by rfl) rfl ?_ ?_
          rotate_left
          · go_simp
            rfl
          refine hK.out _ _ ?_
          clear hK K
          refine done_ (by kernel_rfl) ?_
          go_wp2_with fail
          go_roundw
          case rel => exact ⟨j + 1, by omega, by go_num, B2, c2, ⟨HG5.out.store 5 (.slice B2 (j + 1) c2)⟩, ⟨by rw [HTY.out]; exact own_same HO5.out (SameT.set_ HG5.out.c (by decide) 5 _)⟩⟩
          case measure => simp [intOf]; omega
        · have hm : min (x.size : Int) 500 = 500 := by omega
          have hm2 : min x.size 500 = 500 := by omega
          have q1 : (500 : Int) ≤ (x.size : Int) := by omega
          have HQ : Aside0 ((500 : Int) < (x.size : Int)) := ⟨by omega⟩
          have HTY := HTK (x.extract 0 500) (by rw [hxj]; unfold cutS; rw [if_neg h5])
          clear HTK hxj hj1 hj2
          go_wp2_with fail
          have hq : (500 : Int) < (x.size : Int) := by have := HQ.out; omega
          refine start_ (n := 19) (S := fun w' => w'.cell? ⟨w.heap.size, 5, none⟩ = some (.slice (some ad) ts.length cap) ∧ w'.cell? (ad.add j) = some (.string x) ∧ w'.cell? ⟨w.heap.size + 1 + 1 + 1, 5, none⟩ = some (.slice B j capb)) (ds := [18]) #[false, false, false, false, false, false, false, false, false, false, false, false, false, false, false, false, false, false, false] (by kernel_rfl) rfl rfl ⟨(two_cells5 (HG.out.drew) HC0.out).1, (two_cells5 (HG.out.drew) HC0.out).2, (blk_cell (HG.out.drew).c 5).trans rfl⟩ (fun hHeld => ?_)
          refine pure_ (i := 0) (N := some 46) (v := ?_) (a' := ?_) #[true, false, false, false, false, false, false, false, false, false, false, false, false, false, false, false, false, false, false] rfl rfl (by kernel_rfl) (fun _ _ _ h => h) (Or.inl ⟨by rfl, ?_⟩) ?_ ?_
          rotate_left
          · intro w'
            go_simp
            with_reducible rfl
          rotate_left
          · simp only [Act.put, List.setIfInBounds_toArray, List.set_cons_zero, List.set_cons_succ, i64_w, i32_w]
            rfl
          refine pure_ (i := 2) (N := some 48) (v := ?_) (a' := ?_) #[true, false, true, false, false, false, false, false, false, false, false, false, false, false, false, false, false, false, false] rfl rfl (by kernel_rfl) (fun _ _ _ h => h) (Or.inl ⟨by rfl, ?_⟩) ?_ ?_
          rotate_left
          · intro w'
            go_simp
            with_reducible rfl
          rotate_left
          · simp only [Act.put, List.setIfInBounds_toArray, List.set_cons_zero, List.set_cons_succ, i64_w, i32_w]
            rfl
          refine pure_ (i := 4) (N := some 50) (v := ?_) (a' := ?_) #[true, false, true, false, true, false, false, false, false, false, false, false, false, false, false, false, false, false, false] rfl rfl (by kernel_rfl) (fun _ _ _ h => h) (Or.inl ⟨by rfl, ?_⟩) ?_ ?_
          rotate_left
          · intro w'
            go_simp
            with_reducible rfl
          rotate_left
          · simp only [Act.put, List.setIfInBounds_toArray, List.set_cons_zero, List.set_cons_succ, i64_w, i32_w]
            rfl
          refine pure_ (i := 7) (N := some 53) (v := ?_) (a' := ?_) #[true, false, true, false, true, false, false, true, false, false, false, false, false, false, false, false, false, false, false] rfl rfl (by kernel_rfl) (fun _ _ _ h => h) (Or.inl ⟨by rfl, ?_⟩) ?_ ?_
          rotate_left
          · intro w'
            go_simp
            with_reducible rfl
          rotate_left
          · simp only [Act.put, List.setIfInBounds_toArray, List.set_cons_zero, List.set_cons_succ, i64_w, i32_w]
            rfl
          refine pure_ (i := 9) (N := some 55) (v := ?_) (a' := ?_) #[true, false, true, false, true, false, false, true, false, true, false, false, false, false, false, false, false, false, false] rfl rfl (by kernel_rfl) (fun _ _ _ h => h) (Or.inl ⟨by rfl, ?_⟩) ?_ ?_
          rotate_left
          · intro w'
            go_simp
            with_reducible rfl
          rotate_left
          · simp only [Act.put, List.setIfInBounds_toArray, List.set_cons_zero, List.set_cons_succ, i64_w, i32_w]
            rfl
          refine take_ (i := 1) (N := some 47) (v := ?_) (a' := ?_) #[true, true, true, false, true, false, false, true, false, true, false, false, false, false, false, false, false, false, false] rfl rfl (by kernel_rfl) (fun _ _ _ h => h) (Or.inl ⟨by rfl, ?_⟩) hHeld ?_ ?_
          rotate_left
          · rintro w' ⟨s0, s1, s2⟩
            go_simp
            with_reducible rfl
          rotate_left
          · simp only [Act.put, List.setIfInBounds_toArray, List.set_cons_zero, List.set_cons_succ, i64_w, i32_w]
            rfl
          refine take_ (i := 3) (N := some 49) (v := ?_) (a' := ?_) #[true, true, true, true, true, false, false, true, false, true, false, false, false, false, false, false, false, false, false] rfl rfl (by kernel_rfl) (fun _ _ _ h => h) (Or.inl ⟨by rfl, ?_⟩) hHeld ?_ ?_
          rotate_left
          · rintro w' ⟨s0, s1, s2⟩
            go_simp
            with_reducible rfl
          rotate_left
          · simp only [Act.put, List.setIfInBounds_toArray, List.set_cons_zero, List.set_cons_succ, i64_w, i32_w]
            rfl
          refine pure_ (i := 5) (N := some 51) (v := ?_) (a' := ?_) #[true, true, true, true, true, true, false, true, false, true, false, false, false, false, false, false, false, false, false] rfl rfl (by kernel_rfl) (fun _ _ _ h => h) (Or.inl ⟨by rfl, ?_⟩) ?_ ?_
          rotate_left
          · intro w'
            go_simp
            with_reducible rfl
          rotate_left
          · simp only [Act.put, List.setIfInBounds_toArray, List.set_cons_zero, List.set_cons_succ, i64_w, i32_w]
            rfl
          refine take_ (i := 6) (N := some 52) (v := ?_) (a' := ?_) #[true, true, true, true, true, true, true, true, false, true, false, false, false, false, false, false, false, false, false] rfl rfl (by kernel_rfl) (fun _ _ _ h => h) (Or.inl ⟨by rfl, ?_⟩) hHeld ?_ ?_
          rotate_left
          · rintro w' ⟨s0, s1, s2⟩
            go_simp
            with_reducible rfl
          rotate_left
          · simp only [Act.put, List.setIfInBounds_toArray, List.set_cons_zero, List.set_cons_succ, i64_w, i32_w]
            rfl
          refine take_ (i := 8) (N := some 54) (v := ?_) (a' := ?_) #[true, true, true, true, true, true, true, true, true, true, false, false, false, false, false, false, false, false, false] rfl rfl (by kernel_rfl) (fun _ _ _ h => h) (Or.inl ⟨by rfl, ?_⟩) hHeld ?_ ?_
          rotate_left
          · rintro w' ⟨s0, s1, s2⟩
            go_simp
            with_reducible rfl
          rotate_left
          · simp only [Act.put, List.setIfInBounds_toArray, List.set_cons_zero, List.set_cons_succ, i64_w, i32_w]
            rfl
          refine pure_ (i := 10) (N := some 56) (v := ?_) (a' := ?_) #[true, true, true, true, true, true, true, true, true, true, true, false, false, false, false, false, false, false, false] rfl rfl (by kernel_rfl) (fun _ _ _ h => h) (Or.inl ⟨by rfl, ?_⟩) ?_ ?_
          rotate_left
          · intro w'
            go_simp
            with_reducible rfl
          rotate_left
          · simp only [Act.put, List.setIfInBounds_toArray, List.set_cons_zero, List.set_cons_succ, i64_w, i32_w]
            rfl
          refine take_ (i := 11) (N := some 57) (v := ?_) (a' := ?_) #[true, true, true, true, true, true, true, true, true, true, true, true, false, false, false, false, false, false, false] rfl rfl (by kernel_rfl) (fun _ _ _ h => h) (Or.inl ⟨by rfl, ?_⟩) hHeld ?_ ?_
          rotate_left
          · rintro w' ⟨s0, s1, s2⟩
            go_simp
            with_reducible rfl
          rotate_left
          · simp only [Act.put, List.setIfInBounds_toArray, List.set_cons_zero, List.set_cons_succ, i64_w, i32_w]
            rfl
          refine pure_ (i := 12) (N := some 58) (v := ?_) (a' := ?_) #[true, true, true, true, true, true, true, true, true, true, true, true, true, false, false, false, false, false, false] rfl rfl (by kernel_rfl) (fun _ _ _ h => h) (Or.inl ⟨by rfl, ?_⟩) ?_ ?_
          rotate_left
          · intro w'
            go_simp
            with_reducible rfl
          rotate_left
          · simp only [Act.put, List.setIfInBounds_toArray, List.set_cons_zero, List.set_cons_succ, i64_w, i32_w]
            rfl
          refine pure_ (i := 13) (N := some 59) (v := ?_) (a' := ?_) #[true, true, true, true, true, true, true, true, true, true, true, true, true, true, false, false, false, false, false] rfl rfl (by kernel_rfl) (fun _ _ _ h => h) (Or.inl ⟨by rfl, ?_⟩) ?_ ?_
          rotate_left
          · intro w'
            go_simp
            with_reducible rfl
          rotate_left
          · simp only [Act.put, List.setIfInBounds_toArray, List.set_cons_zero, List.set_cons_succ, i64_w, i32_w]
            rfl
          refine pure_ (i := 14) (N := some 60) (v := ?_) (a' := ?_) #[true, true, true, true, true, true, true, true, true, true, true, true, true, true, true, false, false, false, false] rfl rfl (by kernel_rfl) (fun _ _ _ h => h) (Or.inl ⟨by rfl, ?_⟩) ?_ ?_
          rotate_left
          · intro w'
            go_simp
            with_reducible rfl
          rotate_left
          · simp only [Act.put, List.setIfInBounds_toArray, List.set_cons_zero, List.set_cons_succ, i64_w, i32_w]
            rfl
          refine one_ (i := 15) (N := some 61) #[true, true, true, true, true, true, true, true, true, true, true, true, true, true, true, true, false, false, false] rfl rfl (by kernel_rfl) (by decide) (fun K hK => ?_)
          refine value_ (w1 := ?_) (v := ?_) (by rfl) rfl ?_ ?_
          rotate_left 2
          · go_simp
            constructor
            · rfl
            · rfl
          refine hK.out _ _ ⟨(two_cells5 (HG.out.drew.alloc _) HC0.out).1, (two_cells5 (HG.out.drew.alloc _) HC0.out).2, (blk_cell (HG.out.drew.alloc _).c 5).trans rfl⟩ (fun hHeld => ?_)
          clear hK K
          refine norm_ (a' := ?_) ?_ ?_
          rotate_left
          · show Act.put _ (some 61) _ = _
            simp only [Act.put, List.setIfInBounds_toArray, List.set_cons_zero, List.set_cons_succ, i64_w, i32_w]
            rfl
          refine one_ (i := 16) (N := some 62) #[true, true, true, true, true, true, true, true, true, true, true, true, true, true, true, true, true, false, false] rfl rfl (by kernel_rfl) (by decide) (fun K hK => ?_)
          refine step_append_one (by rfl) _ _ (by rfl) Try.underlying22 info9s rfl Value.string (fun _ => rfl) w.heap.size B j capb _ (xs.take j) (x.extract 0 500) (by rfl) (by rfl) ?_ ?_ ?_ ?_ ?_ ?_
          (repeat (first | exact HO.out | apply World.ownsRow.drew | apply World.ownsRow.alloc))
          (repeat (first | exact heap_new' (by first | rfl | simp) | (with_reducible refine (heap_drew' _ _).trans ?_)))
          (have := HG.out.lo.size; (first | omega | (simp; omega)))
          (omega)
          (omega)
          intro B2 c2 w6 ho hg
          have HG5 : Aside0 (RepSt5 w w6 #[.int .i64 code, .int .i64 line, .int .i64 col, .int .i64 cnt, .string tx, .slice (some ad) ts.length cap, .slice U us.length capu] #[.int .i64 code, .int .i64 line, .int .i64 col, .int .i64 cnt, .string T, .slice B j capb, .slice none 0 0] #[.int .i64 code, .int .i64 line, .int .i64 col, .int .i64 cnt, .string T, .slice none 0 0, .slice none 0 0] g5) := Aside0.mk (RepSt5.grown (by first | exact HG.out.alloc _ | exact (HG.out.alloc _).drew | exact HG.out.drew.alloc _) hg (by repeat (first | exact HO.out | apply World.ownsRow.drew | apply World.ownsRow.alloc)) (by decide) (by decide) (by decide))
          have HO5 := Aside0.mk ho
          clear ho hg
          have z6 : w6.cell? ⟨w.heap.size + 1 + 1 + 1, 5, none⟩ = some (.slice B j capb) := (blk_cell HG5.out.c 5).trans rfl
          have f6 : w6.frozen? ⟨w.heap.size + 1 + 1 + 1, 5, none⟩ = false := blk_frozen HG5.out.c 5
          refine hK.out _ _ ⟨(two_cells5 (HG5.out) HC0.out).1, (two_cells5 (HG5.out) HC0.out).2, (blk_cell (HG5.out).c 5).trans rfl⟩ (fun hHeld => ?_)
          clear hK K
          refine norm_ (a' := ?_) ?_ ?_
          rotate_left
          · show Act.put _ (some 62) _ = _
            simp only [Act.put, List.setIfInBounds_toArray, List.set_cons_zero, List.set_cons_succ, i64_w, i32_w]
            rfl
          refine pure_ (i := 17) (N := some 63) (v := ?_) (a' := ?_) #[true, true, true, true, true, true, true, true, true, true, true, true, true, true, true, true, true, true, false] rfl rfl (by kernel_rfl) (fun _ _ _ h => h) (Or.inl ⟨by rfl, ?_⟩) ?_ ?_
          rotate_left
          · intro w'
            go_simp
            with_reducible rfl
          rotate_left
          · simp only [Act.put, List.setIfInBounds_toArray, List.set_cons_zero, List.set_cons_succ, i64_w, i32_w]
            rfl
          refine last_ (i := 18) (N := none) #[true, true, true, true, true, true, true, true, true, true, true, true, true, true, true, true, true, true, true] rfl rfl (by kernel_rfl) (by decide) (fun K hK => ?_)
          refine skip_ (w1 := ?_) (by rfl) rfl ?_ ?_
          rotate_left
          · go_simp
            rfl
          refine hK.out _ _ ?_
          clear hK K
          refine done_ (by kernel_rfl) ?_
          go_wp2_with fail
          go_roundw
          case rel => exact ⟨j + 1, by omega, by go_num, B2, c2, ⟨HG5.out.store 5 (.slice B2 (j + 1) c2)⟩, ⟨by rw [HTY.out]; exact own_same HO5.out (SameT.set_ HG5.out.c (by decide) 5 _)⟩⟩
          case measure => simp [intOf]; omega
      · have hjx : j = xs.length := by omega
        have hof := HO.out
        rw [List.take_of_length_le (by omega)] at hof
        have HOF := Aside0.mk hof
        have HJX := Aside0.mk hjx
        have HMS : Aside0 (∀ u ∈ us, 0 ≤ u ∧ u < 18446744073709551616) := HUS
        have z3 : wr.cell? ⟨w.heap.size + 1 + 1 + 1, 5, none⟩ = some (.slice B j capb) := (blk_cell HG.out.c 5).trans rfl
        have zg : wr.cell? ⟨g5, 5, none⟩ = some (.slice none 0 0) := (blk_cell HG.out.d 5).trans rfl
        have fg : wr.frozen? ⟨g5, 5, none⟩ = false := blk_frozen HG.out.d 5
        have HG7 : Aside0 (RepSt5 w (wr.setCell ⟨g5, 5, none⟩ (.slice B j capb)) #[.int .i64 code, .int .i64 line, .int .i64 col, .int .i64 cnt, .string tx, .slice A ts.length cap, .slice U us.length capu] #[.int .i64 code, .int .i64 line, .int .i64 col, .int .i64 cnt, .string T, .slice B j capb, .slice none 0 0] #[.int .i64 code, .int .i64 line, .int .i64 col, .int .i64 cnt, .string T, .slice B j capb, .slice none 0 0] g5) := ⟨HG.out.store5 5 (.slice B j capb)⟩
        have HO7 := Aside0.mk (own_same HOF.out (SameT.set_ HG.out.d (by decide) 5 (.slice B j capb)))
        obtain ⟨wu, rfl⟩ : ∃ wu : World, wu = wr := ⟨_, rfl⟩
        clear hof hje
        by_cases hw : ts.length ≤ 50
        · have d1 : decide ((j : Int) < (ts.length : Int)) = false := by simp; omega
          have d3 : decide (j < ts.length) = false := by simp; omega
          clear hw hjx HLE
          go_wp2_with fail
          go_loopw [7] (fun i wr => ∃ k : Nat, k ≤ ys.length ∧ i = .int .i64 k ∧ ∃ M capm, Aside0 (RepSt5 w wr #[.int .i64 code, .int .i64 line, .int .i64 col, .int .i64 cnt, .string tx, .slice A ts.length cap, .slice U us.length capu] #[.int .i64 code, .int .i64 line, .int .i64 col, .int .i64 cnt, .string T, .slice B j capb, .slice M k capm] #[.int .i64 code, .int .i64 line, .int .i64 col, .int .i64 cnt, .string T, .slice B j capb, .slice none 0 0] g5) ∧ Aside0 (wr.ownsRow w.heap.size 120 1 (.slice M k capm) k (encs (Value.float .f64) (ys.take k))) ∧ Aside0 (wr.ownsRow w.heap.size 9 1 (.slice B j capb) j (encs Value.string xs))) (fun i _ => ys.length - (intOf i).toNat)
          case atStart => exact ⟨0, Nat.zero_le _, rfl, none, 0, HG7, ⟨own_nil _ _ _ _⟩, HO7⟩
          case round =>
            clear HG7 HO7 z3 zg fg HG HO HOF
            obtain ⟨k, hk, rfl, M, capm, HG, HF, HO7⟩ := hrel
            have hmu := HU.out.2.1
            have HLE2 := HLEN2.out
            have zr6 : wr.cell? ⟨w.heap.size, 6, none⟩ = some (.slice U us.length capu) := (blk_cell HG.out.x 6).trans rfl
            by_cases hke : k < ys.length
            ·
              have hk1 : k < us.length := by omega
              have hk2 : k < 50 := by omega
              have d4 : decide ((k : Int) < (us.length : Int)) = true := by simp; omega
              have d5 : decide ((k : Int) < 50) = true := by simp; omega
              have d6 : decide (k < us.length) = true := by simp; omega
              obtain ⟨ad, hAd, hcell⟩ := C_int HU.out k hk1
              have hub := HMS.out _ (List.getElem_mem hk1)
              have hyk : ys[k]'hke = (us[k]).toNat := by
                have h := HYS.out
                subst h
                simp [ansM]
              obtain ⟨u, huu⟩ : ∃ u, us[k] = u := ⟨_, rfl⟩
              rw [huu] at hcell hyk hub
              have hfr := frombits_run u
              have HC0 := Aside0.mk hcell
              have hcw : wr.cell? (ad.add k) = some (.int .u64 u) := (HG.out.lo.cell (World.block_lt_of_cell? w _ hcell)).trans hcell
              have z6_ : wr.cell? ⟨w.heap.size + 1 + 1 + 1, 6, none⟩ = some (.slice M k capm) := (blk_cell HG.out.c 6).trans rfl
              have f6_ : wr.frozen? ⟨w.heap.size + 1 + 1 + 1, 6, none⟩ = false := blk_frozen HG.out.c 6
              have l6 : w.heap.size + 1 + 1 + 1 < wr.heap.size := blk_lt HG.out.c
              have p1 : (0 : Int) ≤ (k : Int) := by omega
              have p2 : (k : Int) < (us.length : Int) := by omega
              have HTY : Aside0 (ys.take (k + 1) = ys.take k ++ [u.toNat]) := ⟨by rw [List.take_succ_eq_append_getElem hke, hyk]⟩
              subst hAd
              clear huu hcell hyk hub
              go_wp2_with fail
              refine start_ (n := 12) (S := fun w' => w'.cell? ⟨w.heap.size, 6, none⟩ = some (.slice (some ad) us.length capu) ∧ w'.cell? (ad.add k) = some (.int .u64 u) ∧ w'.cell? ⟨w.heap.size + 1 + 1 + 1, 6, none⟩ = some (.slice M k capm)) (ds := [11]) #[false, false, false, false, false, false, false, false, false, false, false, false] (by kernel_rfl) rfl rfl ⟨(two_cells6 (HG.out.drew) HC0.out).1, (two_cells6 (HG.out.drew) HC0.out).2, (blk_cell (HG.out.drew).c 6).trans rfl⟩ (fun hHeld => ?_)
              refine pure_ (i := 0) (N := some 78) (v := ?_) (a' := ?_) #[true, false, false, false, false, false, false, false, false, false, false, false] rfl rfl (by kernel_rfl) (fun _ _ _ h => h) (Or.inl ⟨by rfl, ?_⟩) ?_ ?_
              rotate_left
              · intro w'
                go_simp
                with_reducible rfl
              rotate_left
              · simp only [Act.put, List.setIfInBounds_toArray, List.set_cons_zero, List.set_cons_succ, i64_w, i32_w]
                rfl
              refine pure_ (i := 2) (N := some 80) (v := ?_) (a' := ?_) #[true, false, true, false, false, false, false, false, false, false, false, false] rfl rfl (by kernel_rfl) (fun _ _ _ h => h) (Or.inl ⟨by rfl, ?_⟩) ?_ ?_
              rotate_left
              · intro w'
                go_simp
                with_reducible rfl
              rotate_left
              · simp only [Act.put, List.setIfInBounds_toArray, List.set_cons_zero, List.set_cons_succ, i64_w, i32_w]
                rfl
              refine pure_ (i := 4) (N := some 82) (v := ?_) (a' := ?_) #[true, false, true, false, true, false, false, false, false, false, false, false] rfl rfl (by kernel_rfl) (fun _ _ _ h => h) (Or.inl ⟨by rfl, ?_⟩) ?_ ?_
              rotate_left
              · intro w'
                go_simp
                with_reducible rfl
              rotate_left
              · simp only [Act.put, List.setIfInBounds_toArray, List.set_cons_zero, List.set_cons_succ, i64_w, i32_w]
                rfl
              refine take_ (i := 1) (N := some 79) (v := ?_) (a' := ?_) #[true, true, true, false, true, false, false, false, false, false, false, false] rfl rfl (by kernel_rfl) (fun _ _ _ h => h) (Or.inl ⟨by rfl, ?_⟩) hHeld ?_ ?_
              rotate_left
              · rintro w' ⟨s0, s1, s2⟩
                go_simp
                with_reducible rfl
              rotate_left
              · simp only [Act.put, List.setIfInBounds_toArray, List.set_cons_zero, List.set_cons_succ, i64_w, i32_w]
                rfl
              refine take_ (i := 3) (N := some 81) (v := ?_) (a' := ?_) #[true, true, true, true, true, false, false, false, false, false, false, false] rfl rfl (by kernel_rfl) (fun _ _ _ h => h) (Or.inl ⟨by rfl, ?_⟩) hHeld ?_ ?_
              rotate_left
              · rintro w' ⟨s0, s1, s2⟩
                go_simp
                with_reducible rfl
              rotate_left
              · simp only [Act.put, List.setIfInBounds_toArray, List.set_cons_zero, List.set_cons_succ, i64_w, i32_w]
                rfl
              refine pure_ (i := 5) (N := some 83) (v := ?_) (a' := ?_) #[true, true, true, true, true, true, false, false, false, false, false, false] rfl rfl (by kernel_rfl) (fun _ _ _ h => h) (Or.inl ⟨by rfl, ?_⟩) ?_ ?_
              rotate_left
              · intro w'
                go_simp
                with_reducible rfl
              rotate_left
              · simp only [Act.put, List.setIfInBounds_toArray, List.set_cons_zero, List.set_cons_succ, i64_w, i32_w]
                rfl
              refine take_ (i := 6) (N := some 84) (v := ?_) (a' := ?_) #[true, true, true, true, true, true, true, false, false, false, false, false] rfl rfl (by kernel_rfl) (fun _ _ _ h => h) (Or.inl ⟨by rfl, ?_⟩) hHeld ?_ ?_
              rotate_left
              · rintro w' ⟨s0, s1, s2⟩
                go_simp
                with_reducible rfl
              rotate_left
              · simp only [Act.put, List.setIfInBounds_toArray, List.set_cons_zero, List.set_cons_succ, i64_w, i32_w]
                rfl
              refine one_ (i := 7) (N := some 85) #[true, true, true, true, true, true, true, true, false, false, false, false] rfl rfl (by kernel_rfl) (by decide) (fun K hK => ?_)
              refine value_ (w1 := ?_) (v := ?_) (by rfl) rfl ?_ ?_
              rotate_left 2
              · go_simp
                constructor
                · rfl
                · rfl
              refine hK.out _ _ ⟨(two_cells6 (HG.out.drew) HC0.out).1, (two_cells6 (HG.out.drew) HC0.out).2, (blk_cell (HG.out.drew).c 6).trans rfl⟩ (fun hHeld => ?_)
              clear hK K
              refine norm_ (a' := ?_) ?_ ?_
              rotate_left
              · show Act.put _ (some 85) _ = _
                simp only [Act.put, List.setIfInBounds_toArray, List.set_cons_zero, List.set_cons_succ, i64_w, i32_w]
                rfl
              refine one_ (i := 8) (N := some 86) #[true, true, true, true, true, true, true, true, true, false, false, false] rfl rfl (by kernel_rfl) (by decide) (fun K hK => ?_)
              refine value_ (w1 := ?_) (v := ?_) (by rfl) rfl ?_ ?_
              rotate_left 2
              · go_simp
                constructor
                · rfl
                · rfl
              refine hK.out _ _ ⟨(two_cells6 (HG.out.drew.alloc _) HC0.out).1, (two_cells6 (HG.out.drew.alloc _) HC0.out).2, (blk_cell (HG.out.drew.alloc _).c 6).trans rfl⟩ (fun hHeld => ?_)
              clear hK K
              refine norm_ (a' := ?_) ?_ ?_
              rotate_left
              · show Act.put _ (some 86) _ = _
                simp only [Act.put, List.setIfInBounds_toArray, List.set_cons_zero, List.set_cons_succ, i64_w, i32_w]
                rfl
              refine one_ (i := 9) (N := some 87) #[true, true, true, true, true, true, true, true, true, true, false, false] rfl rfl (by kernel_rfl) (by decide) (fun K hK => ?_)
              refine step_append_one (by rfl) _ _ (by rfl) Try.underlying42 info120 rfl (Value.float .f64) (fun _ => rfl) w.heap.size M k capm _ (ys.take k) u.toNat (by rfl) (by rfl) ?_ ?_ ?_ ?_ ?_ ?_
              (repeat (first | exact HF.out | apply World.ownsRow.drew | apply World.ownsRow.alloc))
              (repeat (first | exact heap_new' (by first | rfl | simp) | (with_reducible refine (heap_drew' _ _).trans ?_)))
              (have := HG.out.lo.size; (first | omega | (simp; omega)))
              (omega)
              (omega)
              intro M2 cm2 w6 ho hg
              have HG5 : Aside0 (RepSt5 w w6 #[.int .i64 code, .int .i64 line, .int .i64 col, .int .i64 cnt, .string tx, .slice A ts.length cap, .slice (some ad) us.length capu] #[.int .i64 code, .int .i64 line, .int .i64 col, .int .i64 cnt, .string T, .slice B j capb, .slice M k capm] #[.int .i64 code, .int .i64 line, .int .i64 col, .int .i64 cnt, .string T, .slice B j capb, .slice none 0 0] g5) := Aside0.mk (RepSt5.grown (by first | exact HG.out.alloc _ | exact (HG.out.alloc _).drew | exact HG.out.drew.alloc _) hg (by repeat (first | exact HF.out | apply World.ownsRow.drew | apply World.ownsRow.alloc)) (by decide) (by decide) (by decide))
              have HSS5 := Aside0.mk (own_same (by repeat (first | exact HO7.out | apply World.ownsRow.drew | apply World.ownsRow.alloc)) (SameT.grown (t := 9) hg (by repeat (first | exact HF.out | apply World.ownsRow.drew | apply World.ownsRow.alloc)) (by decide)))
              have HF5 := Aside0.mk ho
              clear ho hg
              have z6 : w6.cell? ⟨w.heap.size + 1 + 1 + 1, 6, none⟩ = some (.slice M k capm) := (blk_cell HG5.out.c 6).trans rfl
              have f6 : w6.frozen? ⟨w.heap.size + 1 + 1 + 1, 6, none⟩ = false := blk_frozen HG5.out.c 6
              refine hK.out _ _ ⟨(two_cells6 (HG5.out) HC0.out).1, (two_cells6 (HG5.out) HC0.out).2, (blk_cell (HG5.out).c 6).trans rfl⟩ (fun hHeld => ?_)
              clear hK K
              refine norm_ (a' := ?_) ?_ ?_
              rotate_left
              · show Act.put _ (some 87) _ = _
                simp only [Act.put, List.setIfInBounds_toArray, List.set_cons_zero, List.set_cons_succ, i64_w, i32_w]
                rfl
              refine pure_ (i := 10) (N := some 88) (v := ?_) (a' := ?_) #[true, true, true, true, true, true, true, true, true, true, true, false] rfl rfl (by kernel_rfl) (fun _ _ _ h => h) (Or.inl ⟨by rfl, ?_⟩) ?_ ?_
              rotate_left
              · intro w'
                go_simp
                with_reducible rfl
              rotate_left
              · simp only [Act.put, List.setIfInBounds_toArray, List.set_cons_zero, List.set_cons_succ, i64_w, i32_w]
                rfl
              refine last_ (i := 11) (N := none) #[true, true, true, true, true, true, true, true, true, true, true, true] rfl rfl (by kernel_rfl) (by decide) (fun K hK => ?_)
              refine skip_ (w1 := ?_) (by rfl) rfl ?_ ?_
              rotate_left
              · go_simp
                rfl
              refine hK.out _ _ ?_
              clear hK K
              refine done_ (by kernel_rfl) ?_
              go_wp2_with fail
              go_roundw
              case rel => exact ⟨k + 1, by omega, by go_num, M2, cm2, ⟨HG5.out.store 6 (.slice M2 (k + 1) cm2)⟩, ⟨by rw [HTY.out]; exact own_same HF5.out (SameT.set_ HG5.out.c (by decide) 6 _)⟩, ⟨own_same HSS5.out (SameT.set_ HG5.out.c (by decide) 6 _)⟩⟩
              case measure => simp [intOf]; omega
            · have hkx : k = ys.length := by omega
              have hff := HF.out
              rw [List.take_of_length_le (by omega)] at hff
              have HFF := Aside0.mk hff
              have z6_ : wr.cell? ⟨w.heap.size + 1 + 1 + 1, 6, none⟩ = some (.slice M k capm) := (blk_cell HG.out.c 6).trans rfl
              have zg : wr.cell? ⟨g5, 6, none⟩ = some (.slice none 0 0) := (blk_cell HG.out.d 6).trans rfl
              have fg : wr.frozen? ⟨g5, 6, none⟩ = false := blk_frozen HG.out.d 6
              have HG8 : Aside0 (RepSt5 w (wr.setCell ⟨g5, 6, none⟩ (.slice M k capm)) #[.int .i64 code, .int .i64 line, .int .i64 col, .int .i64 cnt, .string tx, .slice A ts.length cap, .slice U us.length capu] #[.int .i64 code, .int .i64 line, .int .i64 col, .int .i64 cnt, .string T, .slice B j capb, .slice M k capm] #[.int .i64 code, .int .i64 line, .int .i64 col, .int .i64 cnt, .string T, .slice B j capb, .slice M k capm] g5) := ⟨HG.out.store5 6 (.slice M k capm)⟩
              have HO8 := Aside0.mk (own_same HO7.out (SameT.set_ HG.out.d (by decide) 6 (.slice M k capm)))
              have HF8 := Aside0.mk (own_same hff (SameT.set_ HG.out.d (by decide) 6 (.slice M k capm)))
              have HKX := Aside0.mk hkx
              clear hff hke
              by_cases hv : us.length ≤ 50
              · have d4 : decide ((k : Int) < (us.length : Int)) = false := by simp; omega
                have d6 : decide (k < us.length) = false := by simp; omega
                clear hv hkx HLE2
                go_wp2_with fail
                obtain ⟨w8, hw8⟩ : ∃ w8, w8 = wr.setCell ⟨g5, 6, none⟩ (.slice M k capm) := ⟨_, rfl⟩
                rw [← hw8] at HG8 HO8 HF8
                simp only [← hw8]
                clear hw8 z6_ zg fg HG HF HO7
                have hfar := HG8.out.far
                have hne1 : w.heap.size + 1 + 1 + 1 ≠ w.heap.size + 1 := by omega
                have hne2 : w.heap.size + 1 + 1 + 1 ≠ w.heap.size + 1 + 1 := by omega
                have hne3 : g5 ≠ w.heap.size + 1 := by omega
                have hne4 : g5 ≠ w.heap.size + 1 + 1 := by omega
                have hne5 : w.heap.size + 1 + 1 ≠ w.heap.size + 1 := by omega
                obtain ⟨a0, a1, a2, a3, a4, a5, a6, fa0, fa1, fa2, fa3, fa4, fa5, fa6⟩ := cells14 HG8.out.a
                obtain ⟨b0, b1, b2, b3, b4, b5, b6, fb0, fb1, fb2, fb3, fb4, fb5, fb6⟩ := cells14 HG8.out.b
                go_region_held3 (fun w' => w'.cell? ⟨w.heap.size + 1 + 1 + 1, 0, none⟩ = some (.int .i64 code) ∧ w'.cell? ⟨w.heap.size + 1 + 1 + 1, 1, none⟩ = some (.int .i64 line) ∧ w'.cell? ⟨w.heap.size + 1 + 1 + 1, 2, none⟩ = some (.int .i64 col) ∧ w'.cell? ⟨w.heap.size + 1 + 1 + 1, 3, none⟩ = some (.int .i64 cnt) ∧ w'.cell? ⟨w.heap.size + 1 + 1 + 1, 4, none⟩ = some (.string T) ∧ w'.cell? ⟨w.heap.size + 1 + 1 + 1, 5, none⟩ = some (.slice B j capb) ∧ w'.cell? ⟨w.heap.size + 1 + 1 + 1, 6, none⟩ = some (.slice M k capm) ∧ w'.cell? ⟨g5, 0, none⟩ = some (.int .i64 code) ∧ w'.cell? ⟨g5, 1, none⟩ = some (.int .i64 line) ∧ w'.cell? ⟨g5, 2, none⟩ = some (.int .i64 col) ∧ w'.cell? ⟨g5, 3, none⟩ = some (.int .i64 cnt) ∧ w'.cell? ⟨g5, 4, none⟩ = some (.string T) ∧ w'.cell? ⟨g5, 5, none⟩ = some (.slice B j capb) ∧ w'.cell? ⟨g5, 6, none⟩ = some (.slice M k capm)) (first | (with_reducible exact c14 HG8.out.c HG8.out.d) | (with_reducible exact c14 (blk_drew HG8.out.c) (blk_drew HG8.out.d)) | (with_reducible exact c14 ((put7_far _ _ _ _ _ _ _ _ hne1).trans HG8.out.c) ((put7_far _ _ _ _ _ _ _ _ hne3).trans HG8.out.d)) | (with_reducible exact c14 (blk_drew ((put7_far _ _ _ _ _ _ _ _ hne1).trans HG8.out.c)) (blk_drew ((put7_far _ _ _ _ _ _ _ _ hne3).trans HG8.out.d))) | (with_reducible exact c14 ((put7_far _ _ _ _ _ _ _ _ hne2).trans ((put7_far _ _ _ _ _ _ _ _ hne1).trans HG8.out.c)) ((put7_far _ _ _ _ _ _ _ _ hne4).trans ((put7_far _ _ _ _ _ _ _ _ hne3).trans HG8.out.d))) | (with_reducible exact c14 (blk_drew ((put7_far _ _ _ _ _ _ _ _ hne2).trans ((put7_far _ _ _ _ _ _ _ _ hne1).trans HG8.out.c))) (blk_drew ((put7_far _ _ _ _ _ _ _ _ hne4).trans ((put7_far _ _ _ _ _ _ _ _ hne3).trans HG8.out.d)))) | go_keep) (fail)
                all_goals
                  clear a0 fa0 b0 fb0 a1 fa1 b1 fb1 a2 fa2 b2 fb2 a3 fa3 b3 fb3 a4 fa4 b4 fb4 a5 fa5 b5 fb5 a6 fa6 b6 fb6
                  go_wp2_with fail
                  have HGA : Aside0 ((((((((((((((((w8.setCell ⟨w.heap.size + 1, 0, none⟩ (.int .i64 code)).setCell ⟨w.heap.size + 1, 1, none⟩ (.int .i64 line)).setCell ⟨w.heap.size + 1, 2, none⟩ (.int .i64 col)).setCell ⟨w.heap.size + 1, 3, none⟩ (.int .i64 cnt)).setCell ⟨w.heap.size + 1, 4, none⟩ (.string T)).setCell ⟨w.heap.size + 1, 5, none⟩ (.slice B j capb)).setCell ⟨w.heap.size + 1, 6, none⟩ (.slice M k capm)).setCell ⟨w.heap.size + 1 + 1, 0, none⟩ (.int .i64 code)).setCell ⟨w.heap.size + 1 + 1, 1, none⟩ (.int .i64 line)).setCell ⟨w.heap.size + 1 + 1, 2, none⟩ (.int .i64 col)).setCell ⟨w.heap.size + 1 + 1, 3, none⟩ (.int .i64 cnt)).setCell ⟨w.heap.size + 1 + 1, 4, none⟩ (.string T)).setCell ⟨w.heap.size + 1 + 1, 5, none⟩ (.slice B j capb)).setCell ⟨w.heap.size + 1 + 1, 6, none⟩ (.slice M k capm))).heap[w.heap.size + 1]? = some (.cells #[.int .i64 code, .int .i64 line, .int .i64 col, .int .i64 cnt, .string T, .slice B j capb, .slice M k capm] 44 (0, 0))) := ⟨(put7_far (.int .i64 code) (.int .i64 line) (.int .i64 col) (.int .i64 cnt) (.string T) (.slice B j capb) (.slice M k capm) _ (Ne.symm hne5)).trans (put7 HG8.out.a (.int .i64 code) (.int .i64 line) (.int .i64 col) (.int .i64 cnt) (.string T) (.slice B j capb) (.slice M k capm))⟩
                  have HGB : Aside0 ((((((((((((((((w8.setCell ⟨w.heap.size + 1, 0, none⟩ (.int .i64 code)).setCell ⟨w.heap.size + 1, 1, none⟩ (.int .i64 line)).setCell ⟨w.heap.size + 1, 2, none⟩ (.int .i64 col)).setCell ⟨w.heap.size + 1, 3, none⟩ (.int .i64 cnt)).setCell ⟨w.heap.size + 1, 4, none⟩ (.string T)).setCell ⟨w.heap.size + 1, 5, none⟩ (.slice B j capb)).setCell ⟨w.heap.size + 1, 6, none⟩ (.slice M k capm)).setCell ⟨w.heap.size + 1 + 1, 0, none⟩ (.int .i64 code)).setCell ⟨w.heap.size + 1 + 1, 1, none⟩ (.int .i64 line)).setCell ⟨w.heap.size + 1 + 1, 2, none⟩ (.int .i64 col)).setCell ⟨w.heap.size + 1 + 1, 3, none⟩ (.int .i64 cnt)).setCell ⟨w.heap.size + 1 + 1, 4, none⟩ (.string T)).setCell ⟨w.heap.size + 1 + 1, 5, none⟩ (.slice B j capb)).setCell ⟨w.heap.size + 1 + 1, 6, none⟩ (.slice M k capm))).heap[w.heap.size + 1 + 1]? = some (.cells #[.int .i64 code, .int .i64 line, .int .i64 col, .int .i64 cnt, .string T, .slice B j capb, .slice M k capm] 48 (0, 0))) := ⟨put7 ((put7_far (.int .i64 code) (.int .i64 line) (.int .i64 col) (.int .i64 cnt) (.string T) (.slice B j capb) (.slice M k capm) _ hne5).trans HG8.out.b) (.int .i64 code) (.int .i64 line) (.int .i64 col) (.int .i64 cnt) (.string T) (.slice B j capb) (.slice M k capm)⟩
                  have HLOW : Aside0 (Below w.heap.size w (((((((((((((((w8.setCell ⟨w.heap.size + 1, 0, none⟩ (.int .i64 code)).setCell ⟨w.heap.size + 1, 1, none⟩ (.int .i64 line)).setCell ⟨w.heap.size + 1, 2, none⟩ (.int .i64 col)).setCell ⟨w.heap.size + 1, 3, none⟩ (.int .i64 cnt)).setCell ⟨w.heap.size + 1, 4, none⟩ (.string T)).setCell ⟨w.heap.size + 1, 5, none⟩ (.slice B j capb)).setCell ⟨w.heap.size + 1, 6, none⟩ (.slice M k capm)).setCell ⟨w.heap.size + 1 + 1, 0, none⟩ (.int .i64 code)).setCell ⟨w.heap.size + 1 + 1, 1, none⟩ (.int .i64 line)).setCell ⟨w.heap.size + 1 + 1, 2, none⟩ (.int .i64 col)).setCell ⟨w.heap.size + 1 + 1, 3, none⟩ (.int .i64 cnt)).setCell ⟨w.heap.size + 1 + 1, 4, none⟩ (.string T)).setCell ⟨w.heap.size + 1 + 1, 5, none⟩ (.slice B j capb)).setCell ⟨w.heap.size + 1 + 1, 6, none⟩ (.slice M k capm)))) := ⟨put7_below (put7_below HG8.out.lo (by show w.heap.size ≤ w.heap.size + 1; omega) (.int .i64 code) (.int .i64 line) (.int .i64 col) (.int .i64 cnt) (.string T) (.slice B j capb) (.slice M k capm)) (by show w.heap.size ≤ w.heap.size + 1 + 1; omega) (.int .i64 code) (.int .i64 line) (.int .i64 col) (.int .i64 cnt) (.string T) (.slice B j capb) (.slice M k capm)⟩
                  have HSA : ∀ t, t ≠ 44 → t ≠ 48 → SameT t w8 (((((((((((((((w8.setCell ⟨w.heap.size + 1, 0, none⟩ (.int .i64 code)).setCell ⟨w.heap.size + 1, 1, none⟩ (.int .i64 line)).setCell ⟨w.heap.size + 1, 2, none⟩ (.int .i64 col)).setCell ⟨w.heap.size + 1, 3, none⟩ (.int .i64 cnt)).setCell ⟨w.heap.size + 1, 4, none⟩ (.string T)).setCell ⟨w.heap.size + 1, 5, none⟩ (.slice B j capb)).setCell ⟨w.heap.size + 1, 6, none⟩ (.slice M k capm)).setCell ⟨w.heap.size + 1 + 1, 0, none⟩ (.int .i64 code)).setCell ⟨w.heap.size + 1 + 1, 1, none⟩ (.int .i64 line)).setCell ⟨w.heap.size + 1 + 1, 2, none⟩ (.int .i64 col)).setCell ⟨w.heap.size + 1 + 1, 3, none⟩ (.int .i64 cnt)).setCell ⟨w.heap.size + 1 + 1, 4, none⟩ (.string T)).setCell ⟨w.heap.size + 1 + 1, 5, none⟩ (.slice B j capb)).setCell ⟨w.heap.size + 1 + 1, 6, none⟩ (.slice M k capm))) := fun t h1 h2 => (put7_same HG8.out.a h1 (.int .i64 code) (.int .i64 line) (.int .i64 col) (.int .i64 cnt) (.string T) (.slice B j capb) (.slice M k capm)).trans (put7_same ((put7_far (.int .i64 code) (.int .i64 line) (.int .i64 col) (.int .i64 cnt) (.string T) (.slice B j capb) (.slice M k capm) _ hne5).trans HG8.out.b) h2 (.int .i64 code) (.int .i64 line) (.int .i64 col) (.int .i64 cnt) (.string T) (.slice B j capb) (.slice M k capm))
                  have HOZ := Aside0.mk (own_same HO8.out (HSA _ (by decide) (by decide)))
                  have HFZ := Aside0.mk (own_same HF8.out (HSA _ (by decide) (by decide)))
                  clear HSA
                  obtain ⟨w9, hw9⟩ : ∃ w9, w9 = ((((((((((((((w8.setCell ⟨w.heap.size + 1, 0, none⟩ (.int .i64 code)).setCell ⟨w.heap.size + 1, 1, none⟩ (.int .i64 line)).setCell ⟨w.heap.size + 1, 2, none⟩ (.int .i64 col)).setCell ⟨w.heap.size + 1, 3, none⟩ (.int .i64 cnt)).setCell ⟨w.heap.size + 1, 4, none⟩ (.string T)).setCell ⟨w.heap.size + 1, 5, none⟩ (.slice B j capb)).setCell ⟨w.heap.size + 1, 6, none⟩ (.slice M k capm)).setCell ⟨w.heap.size + 1 + 1, 0, none⟩ (.int .i64 code)).setCell ⟨w.heap.size + 1 + 1, 1, none⟩ (.int .i64 line)).setCell ⟨w.heap.size + 1 + 1, 2, none⟩ (.int .i64 col)).setCell ⟨w.heap.size + 1 + 1, 3, none⟩ (.int .i64 cnt)).setCell ⟨w.heap.size + 1 + 1, 4, none⟩ (.string T)).setCell ⟨w.heap.size + 1 + 1, 5, none⟩ (.slice B j capb)).setCell ⟨w.heap.size + 1 + 1, 6, none⟩ (.slice M k capm)) := ⟨_, rfl⟩
                  rw [← hw9] at HGA HGB HLOW HOZ HFZ
                  rw [← hw9]
                  clear hw9
                  refine bodyPost_ret (results_cc rfl _ _ (w.heap.size + 1) (w.heap.size + 1 + 1) 44 48 #[.int .i64 code, .int .i64 line, .int .i64 col, .int .i64 cnt, .string T, .slice B j capb, .slice M k capm] #[.int .i64 code, .int .i64 line, .int .i64 col, .int .i64 cnt, .string T, .slice B j capb, .slice M k capm] (0, 0) (0, 0) _ _ rfl (blk_drew HGA.out) Try.underlying44 rfl (by kernel_rfl) rfl (blk_drew HGB.out) Try.underlying48 rfl (by kernel_rfl)) rfl ?_
                  exact toldA HJX.out HKX.out HOZ.out.drew HFZ.out.drew (below_drew HLOW.out)
              · have d4 : decide ((k : Int) < (us.length : Int)) = true := by simp; omega
                have d6 : decide (k < us.length) = true := by simp; omega
                have d5 : decide ((k : Int) < 50) = false := by simp; omega
                clear hv hkx HLE2
                go_wp2_with fail
                obtain ⟨w8, hw8⟩ : ∃ w8, w8 = wr.setCell ⟨g5, 6, none⟩ (.slice M k capm) := ⟨_, rfl⟩
                rw [← hw8] at HG8 HO8 HF8
                simp only [← hw8]
                clear hw8 z6_ zg fg HG HF HO7
                have hfar := HG8.out.far
                have hne1 : w.heap.size + 1 + 1 + 1 ≠ w.heap.size + 1 := by omega
                have hne2 : w.heap.size + 1 + 1 + 1 ≠ w.heap.size + 1 + 1 := by omega
                have hne3 : g5 ≠ w.heap.size + 1 := by omega
                have hne4 : g5 ≠ w.heap.size + 1 + 1 := by omega
                have hne5 : w.heap.size + 1 + 1 ≠ w.heap.size + 1 := by omega
                obtain ⟨a0, a1, a2, a3, a4, a5, a6, fa0, fa1, fa2, fa3, fa4, fa5, fa6⟩ := cells14 HG8.out.a
                obtain ⟨b0, b1, b2, b3, b4, b5, b6, fb0, fb1, fb2, fb3, fb4, fb5, fb6⟩ := cells14 HG8.out.b
                go_region_held3 (fun w' => w'.cell? ⟨w.heap.size + 1 + 1 + 1, 0, none⟩ = some (.int .i64 code) ∧ w'.cell? ⟨w.heap.size + 1 + 1 + 1, 1, none⟩ = some (.int .i64 line) ∧ w'.cell? ⟨w.heap.size + 1 + 1 + 1, 2, none⟩ = some (.int .i64 col) ∧ w'.cell? ⟨w.heap.size + 1 + 1 + 1, 3, none⟩ = some (.int .i64 cnt) ∧ w'.cell? ⟨w.heap.size + 1 + 1 + 1, 4, none⟩ = some (.string T) ∧ w'.cell? ⟨w.heap.size + 1 + 1 + 1, 5, none⟩ = some (.slice B j capb) ∧ w'.cell? ⟨w.heap.size + 1 + 1 + 1, 6, none⟩ = some (.slice M k capm) ∧ w'.cell? ⟨g5, 0, none⟩ = some (.int .i64 code) ∧ w'.cell? ⟨g5, 1, none⟩ = some (.int .i64 line) ∧ w'.cell? ⟨g5, 2, none⟩ = some (.int .i64 col) ∧ w'.cell? ⟨g5, 3, none⟩ = some (.int .i64 cnt) ∧ w'.cell? ⟨g5, 4, none⟩ = some (.string T) ∧ w'.cell? ⟨g5, 5, none⟩ = some (.slice B j capb) ∧ w'.cell? ⟨g5, 6, none⟩ = some (.slice M k capm)) (first | (with_reducible exact c14 HG8.out.c HG8.out.d) | (with_reducible exact c14 (blk_drew HG8.out.c) (blk_drew HG8.out.d)) | (with_reducible exact c14 ((put7_far _ _ _ _ _ _ _ _ hne1).trans HG8.out.c) ((put7_far _ _ _ _ _ _ _ _ hne3).trans HG8.out.d)) | (with_reducible exact c14 (blk_drew ((put7_far _ _ _ _ _ _ _ _ hne1).trans HG8.out.c)) (blk_drew ((put7_far _ _ _ _ _ _ _ _ hne3).trans HG8.out.d))) | (with_reducible exact c14 ((put7_far _ _ _ _ _ _ _ _ hne2).trans ((put7_far _ _ _ _ _ _ _ _ hne1).trans HG8.out.c)) ((put7_far _ _ _ _ _ _ _ _ hne4).trans ((put7_far _ _ _ _ _ _ _ _ hne3).trans HG8.out.d))) | (with_reducible exact c14 (blk_drew ((put7_far _ _ _ _ _ _ _ _ hne2).trans ((put7_far _ _ _ _ _ _ _ _ hne1).trans HG8.out.c))) (blk_drew ((put7_far _ _ _ _ _ _ _ _ hne4).trans ((put7_far _ _ _ _ _ _ _ _ hne3).trans HG8.out.d)))) | go_keep) (fail)
                all_goals
                  clear a0 fa0 b0 fb0 a1 fa1 b1 fb1 a2 fa2 b2 fb2 a3 fa3 b3 fb3 a4 fa4 b4 fb4 a5 fa5 b5 fb5 a6 fa6 b6 fb6
                  go_wp2_with fail
                  have HGA : Aside0 ((((((((((((((((w8.setCell ⟨w.heap.size + 1, 0, none⟩ (.int .i64 code)).setCell ⟨w.heap.size + 1, 1, none⟩ (.int .i64 line)).setCell ⟨w.heap.size + 1, 2, none⟩ (.int .i64 col)).setCell ⟨w.heap.size + 1, 3, none⟩ (.int .i64 cnt)).setCell ⟨w.heap.size + 1, 4, none⟩ (.string T)).setCell ⟨w.heap.size + 1, 5, none⟩ (.slice B j capb)).setCell ⟨w.heap.size + 1, 6, none⟩ (.slice M k capm)).setCell ⟨w.heap.size + 1 + 1, 0, none⟩ (.int .i64 code)).setCell ⟨w.heap.size + 1 + 1, 1, none⟩ (.int .i64 line)).setCell ⟨w.heap.size + 1 + 1, 2, none⟩ (.int .i64 col)).setCell ⟨w.heap.size + 1 + 1, 3, none⟩ (.int .i64 cnt)).setCell ⟨w.heap.size + 1 + 1, 4, none⟩ (.string T)).setCell ⟨w.heap.size + 1 + 1, 5, none⟩ (.slice B j capb)).setCell ⟨w.heap.size + 1 + 1, 6, none⟩ (.slice M k capm))).heap[w.heap.size + 1]? = some (.cells #[.int .i64 code, .int .i64 line, .int .i64 col, .int .i64 cnt, .string T, .slice B j capb, .slice M k capm] 44 (0, 0))) := ⟨(put7_far (.int .i64 code) (.int .i64 line) (.int .i64 col) (.int .i64 cnt) (.string T) (.slice B j capb) (.slice M k capm) _ (Ne.symm hne5)).trans (put7 HG8.out.a (.int .i64 code) (.int .i64 line) (.int .i64 col) (.int .i64 cnt) (.string T) (.slice B j capb) (.slice M k capm))⟩
                  have HGB : Aside0 ((((((((((((((((w8.setCell ⟨w.heap.size + 1, 0, none⟩ (.int .i64 code)).setCell ⟨w.heap.size + 1, 1, none⟩ (.int .i64 line)).setCell ⟨w.heap.size + 1, 2, none⟩ (.int .i64 col)).setCell ⟨w.heap.size + 1, 3, none⟩ (.int .i64 cnt)).setCell ⟨w.heap.size + 1, 4, none⟩ (.string T)).setCell ⟨w.heap.size + 1, 5, none⟩ (.slice B j capb)).setCell ⟨w.heap.size + 1, 6, none⟩ (.slice M k capm)).setCell ⟨w.heap.size + 1 + 1, 0, none⟩ (.int .i64 code)).setCell ⟨w.heap.size + 1 + 1, 1, none⟩ (.int .i64 line)).setCell ⟨w.heap.size + 1 + 1, 2, none⟩ (.int .i64 col)).setCell ⟨w.heap.size + 1 + 1, 3, none⟩ (.int .i64 cnt)).setCell ⟨w.heap.size + 1 + 1, 4, none⟩ (.string T)).setCell ⟨w.heap.size + 1 + 1, 5, none⟩ (.slice B j capb)).setCell ⟨w.heap.size + 1 + 1, 6, none⟩ (.slice M k capm))).heap[w.heap.size + 1 + 1]? = some (.cells #[.int .i64 code, .int .i64 line, .int .i64 col, .int .i64 cnt, .string T, .slice B j capb, .slice M k capm] 48 (0, 0))) := ⟨put7 ((put7_far (.int .i64 code) (.int .i64 line) (.int .i64 col) (.int .i64 cnt) (.string T) (.slice B j capb) (.slice M k capm) _ hne5).trans HG8.out.b) (.int .i64 code) (.int .i64 line) (.int .i64 col) (.int .i64 cnt) (.string T) (.slice B j capb) (.slice M k capm)⟩
                  have HLOW : Aside0 (Below w.heap.size w (((((((((((((((w8.setCell ⟨w.heap.size + 1, 0, none⟩ (.int .i64 code)).setCell ⟨w.heap.size + 1, 1, none⟩ (.int .i64 line)).setCell ⟨w.heap.size + 1, 2, none⟩ (.int .i64 col)).setCell ⟨w.heap.size + 1, 3, none⟩ (.int .i64 cnt)).setCell ⟨w.heap.size + 1, 4, none⟩ (.string T)).setCell ⟨w.heap.size + 1, 5, none⟩ (.slice B j capb)).setCell ⟨w.heap.size + 1, 6, none⟩ (.slice M k capm)).setCell ⟨w.heap.size + 1 + 1, 0, none⟩ (.int .i64 code)).setCell ⟨w.heap.size + 1 + 1, 1, none⟩ (.int .i64 line)).setCell ⟨w.heap.size + 1 + 1, 2, none⟩ (.int .i64 col)).setCell ⟨w.heap.size + 1 + 1, 3, none⟩ (.int .i64 cnt)).setCell ⟨w.heap.size + 1 + 1, 4, none⟩ (.string T)).setCell ⟨w.heap.size + 1 + 1, 5, none⟩ (.slice B j capb)).setCell ⟨w.heap.size + 1 + 1, 6, none⟩ (.slice M k capm)))) := ⟨put7_below (put7_below HG8.out.lo (by show w.heap.size ≤ w.heap.size + 1; omega) (.int .i64 code) (.int .i64 line) (.int .i64 col) (.int .i64 cnt) (.string T) (.slice B j capb) (.slice M k capm)) (by show w.heap.size ≤ w.heap.size + 1 + 1; omega) (.int .i64 code) (.int .i64 line) (.int .i64 col) (.int .i64 cnt) (.string T) (.slice B j capb) (.slice M k capm)⟩
                  have HSA : ∀ t, t ≠ 44 → t ≠ 48 → SameT t w8 (((((((((((((((w8.setCell ⟨w.heap.size + 1, 0, none⟩ (.int .i64 code)).setCell ⟨w.heap.size + 1, 1, none⟩ (.int .i64 line)).setCell ⟨w.heap.size + 1, 2, none⟩ (.int .i64 col)).setCell ⟨w.heap.size + 1, 3, none⟩ (.int .i64 cnt)).setCell ⟨w.heap.size + 1, 4, none⟩ (.string T)).setCell ⟨w.heap.size + 1, 5, none⟩ (.slice B j capb)).setCell ⟨w.heap.size + 1, 6, none⟩ (.slice M k capm)).setCell ⟨w.heap.size + 1 + 1, 0, none⟩ (.int .i64 code)).setCell ⟨w.heap.size + 1 + 1, 1, none⟩ (.int .i64 line)).setCell ⟨w.heap.size + 1 + 1, 2, none⟩ (.int .i64 col)).setCell ⟨w.heap.size + 1 + 1, 3, none⟩ (.int .i64 cnt)).setCell ⟨w.heap.size + 1 + 1, 4, none⟩ (.string T)).setCell ⟨w.heap.size + 1 + 1, 5, none⟩ (.slice B j capb)).setCell ⟨w.heap.size + 1 + 1, 6, none⟩ (.slice M k capm))) := fun t h1 h2 => (put7_same HG8.out.a h1 (.int .i64 code) (.int .i64 line) (.int .i64 col) (.int .i64 cnt) (.string T) (.slice B j capb) (.slice M k capm)).trans (put7_same ((put7_far (.int .i64 code) (.int .i64 line) (.int .i64 col) (.int .i64 cnt) (.string T) (.slice B j capb) (.slice M k capm) _ hne5).trans HG8.out.b) h2 (.int .i64 code) (.int .i64 line) (.int .i64 col) (.int .i64 cnt) (.string T) (.slice B j capb) (.slice M k capm))
                  have HOZ := Aside0.mk (own_same HO8.out (HSA _ (by decide) (by decide)))
                  have HFZ := Aside0.mk (own_same HF8.out (HSA _ (by decide) (by decide)))
                  clear HSA
                  obtain ⟨w9, hw9⟩ : ∃ w9, w9 = ((((((((((((((w8.setCell ⟨w.heap.size + 1, 0, none⟩ (.int .i64 code)).setCell ⟨w.heap.size + 1, 1, none⟩ (.int .i64 line)).setCell ⟨w.heap.size + 1, 2, none⟩ (.int .i64 col)).setCell ⟨w.heap.size + 1, 3, none⟩ (.int .i64 cnt)).setCell ⟨w.heap.size + 1, 4, none⟩ (.string T)).setCell ⟨w.heap.size + 1, 5, none⟩ (.slice B j capb)).setCell ⟨w.heap.size + 1, 6, none⟩ (.slice M k capm)).setCell ⟨w.heap.size + 1 + 1, 0, none⟩ (.int .i64 code)).setCell ⟨w.heap.size + 1 + 1, 1, none⟩ (.int .i64 line)).setCell ⟨w.heap.size + 1 + 1, 2, none⟩ (.int .i64 col)).setCell ⟨w.heap.size + 1 + 1, 3, none⟩ (.int .i64 cnt)).setCell ⟨w.heap.size + 1 + 1, 4, none⟩ (.string T)).setCell ⟨w.heap.size + 1 + 1, 5, none⟩ (.slice B j capb)).setCell ⟨w.heap.size + 1 + 1, 6, none⟩ (.slice M k capm)) := ⟨_, rfl⟩
                  rw [← hw9] at HGA HGB HLOW HOZ HFZ
                  rw [← hw9]
                  clear hw9
                  refine bodyPost_ret (results_cc rfl _ _ (w.heap.size + 1) (w.heap.size + 1 + 1) 44 48 #[.int .i64 code, .int .i64 line, .int .i64 col, .int .i64 cnt, .string T, .slice B j capb, .slice M k capm] #[.int .i64 code, .int .i64 line, .int .i64 col, .int .i64 cnt, .string T, .slice B j capb, .slice M k capm] (0, 0) (0, 0) _ _ rfl (blk_drew HGA.out) Try.underlying44 rfl (by kernel_rfl) rfl (blk_drew HGB.out) Try.underlying48 rfl (by kernel_rfl)) rfl ?_
                  exact toldA HJX.out HKX.out HOZ.out.drew HFZ.out.drew (below_drew HLOW.out)
        · have d1 : decide ((j : Int) < (ts.length : Int)) = true := by simp; omega
          have d3 : decide (j < ts.length) = true := by simp; omega
          have d2 : decide ((j : Int) < 50) = false := by simp; omega
          clear hw hjx HLE
          go_wp2_with fail
          go_loopw [7] (fun i wr => ∃ k : Nat, k ≤ ys.length ∧ i = .int .i64 k ∧ ∃ M capm, Aside0 (RepSt5 w wr #[.int .i64 code, .int .i64 line, .int .i64 col, .int .i64 cnt, .string tx, .slice A ts.length cap, .slice U us.length capu] #[.int .i64 code, .int .i64 line, .int .i64 col, .int .i64 cnt, .string T, .slice B j capb, .slice M k capm] #[.int .i64 code, .int .i64 line, .int .i64 col, .int .i64 cnt, .string T, .slice B j capb, .slice none 0 0] g5) ∧ Aside0 (wr.ownsRow w.heap.size 120 1 (.slice M k capm) k (encs (Value.float .f64) (ys.take k))) ∧ Aside0 (wr.ownsRow w.heap.size 9 1 (.slice B j capb) j (encs Value.string xs))) (fun i _ => ys.length - (intOf i).toNat)
          case atStart => exact ⟨0, Nat.zero_le _, rfl, none, 0, HG7, ⟨own_nil _ _ _ _⟩, HO7⟩
          case round =>
            clear HG7 HO7 z3 zg fg HG HO HOF
            obtain ⟨k, hk, rfl, M, capm, HG, HF, HO7⟩ := hrel
            have hmu := HU.out.2.1
            have HLE2 := HLEN2.out
            have zr6 : wr.cell? ⟨w.heap.size, 6, none⟩ = some (.slice U us.length capu) := (blk_cell HG.out.x 6).trans rfl
            by_cases hke : k < ys.length
            ·
              have hk1 : k < us.length := by omega
              have hk2 : k < 50 := by omega
              have d4 : decide ((k : Int) < (us.length : Int)) = true := by simp; omega
              have d5 : decide ((k : Int) < 50) = true := by simp; omega
              have d6 : decide (k < us.length) = true := by simp; omega
              obtain ⟨ad, hAd, hcell⟩ := C_int HU.out k hk1
              have hub := HMS.out _ (List.getElem_mem hk1)
              have hyk : ys[k]'hke = (us[k]).toNat := by
                have h := HYS.out
                subst h
                simp [ansM]
              obtain ⟨u, huu⟩ : ∃ u, us[k] = u := ⟨_, rfl⟩
              rw [huu] at hcell hyk hub
              have hfr := frombits_run u
              have HC0 := Aside0.mk hcell
              have hcw : wr.cell? (ad.add k) = some (.int .u64 u) := (HG.out.lo.cell (World.block_lt_of_cell? w _ hcell)).trans hcell
              have z6_ : wr.cell? ⟨w.heap.size + 1 + 1 + 1, 6, none⟩ = some (.slice M k capm) := (blk_cell HG.out.c 6).trans rfl
              have f6_ : wr.frozen? ⟨w.heap.size + 1 + 1 + 1, 6, none⟩ = false := blk_frozen HG.out.c 6
              have l6 : w.heap.size + 1 + 1 + 1 < wr.heap.size := blk_lt HG.out.c
              have p1 : (0 : Int) ≤ (k : Int) := by omega
              have p2 : (k : Int) < (us.length : Int) := by omega
              have HTY : Aside0 (ys.take (k + 1) = ys.take k ++ [u.toNat]) := ⟨by rw [List.take_succ_eq_append_getElem hke, hyk]⟩
              subst hAd
              clear huu hcell hyk hub
              go_wp2_with fail
              refine start_ (n := 12) (S := fun w' => w'.cell? ⟨w.heap.size, 6, none⟩ = some (.slice (some ad) us.length capu) ∧ w'.cell? (ad.add k) = some (.int .u64 u) ∧ w'.cell? ⟨w.heap.size + 1 + 1 + 1, 6, none⟩ = some (.slice M k capm)) (ds := [11]) #[false, false, false, false, false, false, false, false, false, false, false, false] (by kernel_rfl) rfl rfl ⟨(two_cells6 (HG.out.drew) HC0.out).1, (two_cells6 (HG.out.drew) HC0.out).2, (blk_cell (HG.out.drew).c 6).trans rfl⟩ (fun hHeld => ?_)
              refine pure_ (i := 0) (N := some 78) (v := ?_) (a' := ?_) #[true, false, false, false, false, false, false, false, false, false, false, false] rfl rfl (by kernel_rfl) (fun _ _ _ h => h) (Or.inl ⟨by rfl, ?_⟩) ?_ ?_
              rotate_left
              · intro w'
                go_simp
                with_reducible rfl
              rotate_left
              · simp only [Act.put, List.setIfInBounds_toArray, List.set_cons_zero, List.set_cons_succ, i64_w, i32_w]
                rfl
              refine pure_ (i := 2) (N := some 80) (v := ?_) (a' := ?_) #[true, false, true, false, false, false, false, false, false, false, false, false] rfl rfl (by kernel_rfl) (fun _ _ _ h => h) (Or.inl ⟨by rfl, ?_⟩) ?_ ?_
              rotate_left
              · intro w'
                go_simp
                with_reducible rfl
              rotate_left
              · simp only [Act.put, List.setIfInBounds_toArray, List.set_cons_zero, List.set_cons_succ, i64_w, i32_w]
                rfl
              refine pure_ (i := 4) (N := some 82) (v := ?_) (a' := ?_) #[true, false, true, false, true, false, false, false, false, false, false, false] rfl rfl (by kernel_rfl) (fun _ _ _ h => h) (Or.inl ⟨by rfl, ?_⟩) ?_ ?_
              rotate_left
              · intro w'
                go_simp
                with_reducible rfl
              rotate_left
              · simp only [Act.put, List.setIfInBounds_toArray, List.set_cons_zero, List.set_cons_succ, i64_w, i32_w]
                rfl
              refine take_ (i := 1) (N := some 79) (v := ?_) (a' := ?_) #[true, true, true, false, true, false, false, false, false, false, false, false] rfl rfl (by kernel_rfl) (fun _ _ _ h => h) (Or.inl ⟨by rfl, ?_⟩) hHeld ?_ ?_
              rotate_left
              · rintro w' ⟨s0, s1, s2⟩
                go_simp
                with_reducible rfl
              rotate_left
              · simp only [Act.put, List.setIfInBounds_toArray, List.set_cons_zero, List.set_cons_succ, i64_w, i32_w]
                rfl
              refine take_ (i := 3) (N := some 81) (v := ?_) (a' := ?_) #[true, true, true, true, true, false, false, false, false, false, false, false] rfl rfl (by kernel_rfl) (fun _ _ _ h => h) (Or.inl ⟨by rfl, ?_⟩) hHeld ?_ ?_
              rotate_left
              · rintro w' ⟨s0, s1, s2⟩
                go_simp
                with_reducible rfl
              rotate_left
              · simp only [Act.put, List.setIfInBounds_toArray, List.set_cons_zero, List.set_cons_succ, i64_w, i32_w]
                rfl
              refine pure_ (i := 5) (N := some 83) (v := ?_) (a' := ?_) #[true, true, true, true, true, true, false, false, false, false, false, false] rfl rfl (by kernel_rfl) (fun _ _ _ h => h) (Or.inl ⟨by rfl, ?_⟩) ?_ ?_
              rotate_left
              · intro w'
                go_simp
                with_reducible rfl
              rotate_left
              · simp only [Act.put, List.setIfInBounds_toArray, List.set_cons_zero, List.set_cons_succ, i64_w, i32_w]
                rfl
              refine take_ (i := 6) (N := some 84) (v := ?_) (a' := ?_) #[true, true, true, true, true, true, true, false, false, false, false, false] rfl rfl (by kernel_rfl) (fun _ _ _ h => h) (Or.inl ⟨by rfl, ?_⟩) hHeld ?_ ?_
              rotate_left
              · rintro w' ⟨s0, s1, s2⟩
                go_simp
                with_reducible rfl
              rotate_left
              · simp only [Act.put, List.setIfInBounds_toArray, List.set_cons_zero, List.set_cons_succ, i64_w, i32_w]
                rfl
              refine one_ (i := 7) (N := some 85) #[true, true, true, true, true, true, true, true, false, false, false, false] rfl rfl (by kernel_rfl) (by decide) (fun K hK => ?_)
              refine value_ (w1 := ?_) (v := ?_) (by rfl) rfl ?_ ?_
              rotate_left 2
              · go_simp
                constructor
                · rfl
                · rfl
              refine hK.out _ _ ⟨(two_cells6 (HG.out.drew) HC0.out).1, (two_cells6 (HG.out.drew) HC0.out).2, (blk_cell (HG.out.drew).c 6).trans rfl⟩ (fun hHeld => ?_)
              clear hK K
              refine norm_ (a' := ?_) ?_ ?_
              rotate_left
              · show Act.put _ (some 85) _ = _
                simp only [Act.put, List.setIfInBounds_toArray, List.set_cons_zero, List.set_cons_succ, i64_w, i32_w]
                rfl
              refine one_ (i := 8) (N := some 86) #[true, true, true, true, true, true, true, true, true, false, false, false] rfl rfl (by kernel_rfl) (by decide) (fun K hK => ?_)
              refine value_ (w1 := ?_) (v := ?_) (by rfl) rfl ?_ ?_
              rotate_left 2
              · go_simp
                constructor
                · rfl
                · rfl
              refine hK.out _ _ ⟨(two_cells6 (HG.out.drew.alloc _) HC0.out).1, (two_cells6 (HG.out.drew.alloc _) HC0.out).2, (blk_cell (HG.out.drew.alloc _).c 6).trans rfl⟩ (fun hHeld => ?_)
              clear hK K
              refine norm_ (a' := ?_) ?_ ?_
              rotate_left
              · show Act.put _ (some 86) _ = _
                simp only [Act.put, List.setIfInBounds_toArray, List.set_cons_zero, List.set_cons_succ, i64_w, i32_w]
                rfl
              refine one_ (i := 9) (N := some 87) #[true, true, true, true, true, true, true, true, true, true, false, false] rfl rfl (by kernel_rfl) (by decide) (fun K hK => ?_)
              refine step_append_one (by rfl) _ _ (by rfl) Try.underlying42 info120 rfl (Value.float .f64) (fun _ => rfl) w.heap.size M k capm _ (ys.take k) u.toNat (by rfl) (by rfl) ?_ ?_ ?_ ?_ ?_ ?_
              (repeat (first | exact HF.out | apply World.ownsRow.drew | apply World.ownsRow.alloc))
              (repeat (first | exact heap_new' (by first | rfl | simp) | (with_reducible refine (heap_drew' _ _).trans ?_)))
              (have := HG.out.lo.size; (first | omega | (simp; omega)))
              (omega)
              (omega)
              intro M2 cm2 w6 ho hg
              have HG5 : Aside0 (RepSt5 w w6 #[.int .i64 code, .int .i64 line, .int .i64 col, .int .i64 cnt, .string tx, .slice A ts.length cap, .slice (some ad) us.length capu] #[.int .i64 code, .int .i64 line, .int .i64 col, .int .i64 cnt, .string T, .slice B j capb, .slice M k capm] #[.int .i64 code, .int .i64 line, .int .i64 col, .int .i64 cnt, .string T, .slice B j capb, .slice none 0 0] g5) := Aside0.mk (RepSt5.grown (by first | exact HG.out.alloc _ | exact (HG.out.alloc _).drew | exact HG.out.drew.alloc _) hg (by repeat (first | exact HF.out | apply World.ownsRow.drew | apply World.ownsRow.alloc)) (by decide) (by decide) (by decide))
              have HSS5 := Aside0.mk (own_same (by repeat (first | exact HO7.out | apply World.ownsRow.drew | apply World.ownsRow.alloc)) (SameT.grown (t := 9) hg (by repeat (first | exact HF.out | apply World.ownsRow.drew | apply World.ownsRow.alloc)) (by decide)))
              have HF5 := Aside0.mk ho
              clear ho hg
              have z6 : w6.cell? ⟨w.heap.size + 1 + 1 + 1, 6, none⟩ = some (.slice M k capm) := (blk_cell HG5.out.c 6).trans rfl
              have f6 : w6.frozen? ⟨w.heap.size + 1 + 1 + 1, 6, none⟩ = false := blk_frozen HG5.out.c 6
              refine hK.out _ _ ⟨(two_cells6 (HG5.out) HC0.out).1, (two_cells6 (HG5.out) HC0.out).2, (blk_cell (HG5.out).c 6).trans rfl⟩ (fun hHeld => ?_)
              clear hK K
              refine norm_ (a' := ?_) ?_ ?_
              rotate_left
              · show Act.put _ (some 87) _ = _
                simp only [Act.put, List.setIfInBounds_toArray, List.set_cons_zero, List.set_cons_succ, i64_w, i32_w]
                rfl
              refine pure_ (i := 10) (N := some 88) (v := ?_) (a' := ?_) #[true, true, true, true, true, true, true, true, true, true, true, false] rfl rfl (by kernel_rfl) (fun _ _ _ h => h) (Or.inl ⟨by rfl, ?_⟩) ?_ ?_
              rotate_left
              · intro w'
                go_simp
                with_reducible rfl
              rotate_left
              · simp only [Act.put, List.setIfInBounds_toArray, List.set_cons_zero, List.set_cons_succ, i64_w, i32_w]
                rfl
              refine last_ (i := 11) (N := none) #[true, true, true, true, true, true, true, true, true, true, true, true] rfl rfl (by kernel_rfl) (by decide) (fun K hK => ?_)
              refine skip_ (w1 := ?_) (by rfl) rfl ?_ ?_
              rotate_left
              · go_simp
                rfl
              refine hK.out _ _ ?_
              clear hK K
              refine done_ (by kernel_rfl) ?_
              go_wp2_with fail
              go_roundw
              case rel => exact ⟨k + 1, by omega, by go_num, M2, cm2, ⟨HG5.out.store 6 (.slice M2 (k + 1) cm2)⟩, ⟨by rw [HTY.out]; exact own_same HF5.out (SameT.set_ HG5.out.c (by decide) 6 _)⟩, ⟨own_same HSS5.out (SameT.set_ HG5.out.c (by decide) 6 _)⟩⟩
              case measure => simp [intOf]; omega
            · have hkx : k = ys.length := by omega
              have hff := HF.out
              rw [List.take_of_length_le (by omega)] at hff
              have HFF := Aside0.mk hff
              have z6_ : wr.cell? ⟨w.heap.size + 1 + 1 + 1, 6, none⟩ = some (.slice M k capm) := (blk_cell HG.out.c 6).trans rfl
              have zg : wr.cell? ⟨g5, 6, none⟩ = some (.slice none 0 0) := (blk_cell HG.out.d 6).trans rfl
              have fg : wr.frozen? ⟨g5, 6, none⟩ = false := blk_frozen HG.out.d 6
              have HG8 : Aside0 (RepSt5 w (wr.setCell ⟨g5, 6, none⟩ (.slice M k capm)) #[.int .i64 code, .int .i64 line, .int .i64 col, .int .i64 cnt, .string tx, .slice A ts.length cap, .slice U us.length capu] #[.int .i64 code, .int .i64 line, .int .i64 col, .int .i64 cnt, .string T, .slice B j capb, .slice M k capm] #[.int .i64 code, .int .i64 line, .int .i64 col, .int .i64 cnt, .string T, .slice B j capb, .slice M k capm] g5) := ⟨HG.out.store5 6 (.slice M k capm)⟩
              have HO8 := Aside0.mk (own_same HO7.out (SameT.set_ HG.out.d (by decide) 6 (.slice M k capm)))
              have HF8 := Aside0.mk (own_same hff (SameT.set_ HG.out.d (by decide) 6 (.slice M k capm)))
              have HKX := Aside0.mk hkx
              clear hff hke
              by_cases hv : us.length ≤ 50
              · have d4 : decide ((k : Int) < (us.length : Int)) = false := by simp; omega
                have d6 : decide (k < us.length) = false := by simp; omega
                clear hv hkx HLE2
                go_wp2_with fail
                obtain ⟨w8, hw8⟩ : ∃ w8, w8 = wr.setCell ⟨g5, 6, none⟩ (.slice M k capm) := ⟨_, rfl⟩
                rw [← hw8] at HG8 HO8 HF8
                simp only [← hw8]
                clear hw8 z6_ zg fg HG HF HO7
                have hfar := HG8.out.far
                have hne1 : w.heap.size + 1 + 1 + 1 ≠ w.heap.size + 1 := by omega
                have hne2 : w.heap.size + 1 + 1 + 1 ≠ w.heap.size + 1 + 1 := by omega
                have hne3 : g5 ≠ w.heap.size + 1 := by omega
                have hne4 : g5 ≠ w.heap.size + 1 + 1 := by omega
                have hne5 : w.heap.size + 1 + 1 ≠ w.heap.size + 1 := by omega
                obtain ⟨a0, a1, a2, a3, a4, a5, a6, fa0, fa1, fa2, fa3, fa4, fa5, fa6⟩ := cells14 HG8.out.a
                obtain ⟨b0, b1, b2, b3, b4, b5, b6, fb0, fb1, fb2, fb3, fb4, fb5, fb6⟩ := cells14 HG8.out.b
                go_region_held3 (fun w' => w'.cell? ⟨w.heap.size + 1 + 1 + 1, 0, none⟩ = some (.int .i64 code) ∧ w'.cell? ⟨w.heap.size + 1 + 1 + 1, 1, none⟩ = some (.int .i64 line) ∧ w'.cell? ⟨w.heap.size + 1 + 1 + 1, 2, none⟩ = some (.int .i64 col) ∧ w'.cell? ⟨w.heap.size + 1 + 1 + 1, 3, none⟩ = some (.int .i64 cnt) ∧ w'.cell? ⟨w.heap.size + 1 + 1 + 1, 4, none⟩ = some (.string T) ∧ w'.cell? ⟨w.heap.size + 1 + 1 + 1, 5, none⟩ = some (.slice B j capb) ∧ w'.cell? ⟨w.heap.size + 1 + 1 + 1, 6, none⟩ = some (.slice M k capm) ∧ w'.cell? ⟨g5, 0, none⟩ = some (.int .i64 code) ∧ w'.cell? ⟨g5, 1, none⟩ = some (.int .i64 line) ∧ w'.cell? ⟨g5, 2, none⟩ = some (.int .i64 col) ∧ w'.cell? ⟨g5, 3, none⟩ = some (.int .i64 cnt) ∧ w'.cell? ⟨g5, 4, none⟩ = some (.string T) ∧ w'.cell? ⟨g5, 5, none⟩ = some (.slice B j capb) ∧ w'.cell? ⟨g5, 6, none⟩ = some (.slice M k capm)) (first | (with_reducible exact c14 HG8.out.c HG8.out.d) | (with_reducible exact c14 (blk_drew HG8.out.c) (blk_drew HG8.out.d)) | (with_reducible exact c14 ((put7_far _ _ _ _ _ _ _ _ hne1).trans HG8.out.c) ((put7_far _ _ _ _ _ _ _ _ hne3).trans HG8.out.d)) | (with_reducible exact c14 (blk_drew ((put7_far _ _ _ _ _ _ _ _ hne1).trans HG8.out.c)) (blk_drew ((put7_far _ _ _ _ _ _ _ _ hne3).trans HG8.out.d))) | (with_reducible exact c14 ((put7_far _ _ _ _ _ _ _ _ hne2).trans ((put7_far _ _ _ _ _ _ _ _ hne1).trans HG8.out.c)) ((put7_far _ _ _ _ _ _ _ _ hne4).trans ((put7_far _ _ _ _ _ _ _ _ hne3).trans HG8.out.d))) | (with_reducible exact c14 (blk_drew ((put7_far _ _ _ _ _ _ _ _ hne2).trans ((put7_far _ _ _ _ _ _ _ _ hne1).trans HG8.out.c))) (blk_drew ((put7_far _ _ _ _ _ _ _ _ hne4).trans ((put7_far _ _ _ _ _ _ _ _ hne3).trans HG8.out.d)))) | go_keep) (fail)
                all_goals
                  clear a0 fa0 b0 fb0 a1 fa1 b1 fb1 a2 fa2 b2 fb2 a3 fa3 b3 fb3 a4 fa4 b4 fb4 a5 fa5 b5 fb5 a6 fa6 b6 fb6
                  go_wp2_with fail
                  have HGA : Aside0 ((((((((((((((((w8.setCell ⟨w.heap.size + 1, 0, none⟩ (.int .i64 code)).setCell ⟨w.heap.size + 1, 1, none⟩ (.int .i64 line)).setCell ⟨w.heap.size + 1, 2, none⟩ (.int .i64 col)).setCell ⟨w.heap.size + 1, 3, none⟩ (.int .i64 cnt)).setCell ⟨w.heap.size + 1, 4, none⟩ (.string T)).setCell ⟨w.heap.size + 1, 5, none⟩ (.slice B j capb)).setCell ⟨w.heap.size + 1, 6, none⟩ (.slice M k capm)).setCell ⟨w.heap.size + 1 + 1, 0, none⟩ (.int .i64 code)).setCell ⟨w.heap.size + 1 + 1, 1, none⟩ (.int .i64 line)).setCell ⟨w.heap.size + 1 + 1, 2, none⟩ (.int .i64 col)).setCell ⟨w.heap.size + 1 + 1, 3, none⟩ (.int .i64 cnt)).setCell ⟨w.heap.size + 1 + 1, 4, none⟩ (.string T)).setCell ⟨w.heap.size + 1 + 1, 5, none⟩ (.slice B j capb)).setCell ⟨w.heap.size + 1 + 1, 6, none⟩ (.slice M k capm))).heap[w.heap.size + 1]? = some (.cells #[.int .i64 code, .int .i64 line, .int .i64 col, .int .i64 cnt, .string T, .slice B j capb, .slice M k capm] 44 (0, 0))) := ⟨(put7_far (.int .i64 code) (.int .i64 line) (.int .i64 col) (.int .i64 cnt) (.string T) (.slice B j capb) (.slice M k capm) _ (Ne.symm hne5)).trans (put7 HG8.out.a (.int .i64 code) (.int .i64 line) (.int .i64 col) (.int .i64 cnt) (.string T) (.slice B j capb) (.slice M k capm))⟩
                  have HGB : Aside0 ((((((((((((((((w8.setCell ⟨w.heap.size + 1, 0, none⟩ (.int .i64 code)).setCell ⟨w.heap.size + 1, 1, none⟩ (.int .i64 line)).setCell ⟨w.heap.size + 1, 2, none⟩ (.int .i64 col)).setCell ⟨w.heap.size + 1, 3, none⟩ (.int .i64 cnt)).setCell ⟨w.heap.size + 1, 4, none⟩ (.string T)).setCell ⟨w.heap.size + 1, 5, none⟩ (.slice B j capb)).setCell ⟨w.heap.size + 1, 6, none⟩ (.slice M k capm)).setCell ⟨w.heap.size + 1 + 1, 0, none⟩ (.int .i64 code)).setCell ⟨w.heap.size + 1 + 1, 1, none⟩ (.int .i64 line)).setCell ⟨w.heap.size + 1 + 1, 2, none⟩ (.int .i64 col)).setCell ⟨w.heap.size + 1 + 1, 3, none⟩ (.int .i64 cnt)).setCell ⟨w.heap.size + 1 + 1, 4, none⟩ (.string T)).setCell ⟨w.heap.size + 1 + 1, 5, none⟩ (.slice B j capb)).setCell ⟨w.heap.size + 1 + 1, 6, none⟩ (.slice M k capm))).heap[w.heap.size + 1 + 1]? = some (.cells #[.int .i64 code, .int .i64 line, .int .i64 col, .int .i64 cnt, .string T, .slice B j capb, .slice M k capm] 48 (0, 0))) := ⟨put7 ((put7_far (.int .i64 code) (.int .i64 line) (.int .i64 col) (.int .i64 cnt) (.string T) (.slice B j capb) (.slice M k capm) _ hne5).trans HG8.out.b) (.int .i64 code) (.int .i64 line) (.int .i64 col) (.int .i64 cnt) (.string T) (.slice B j capb) (.slice M k capm)⟩
                  have HLOW : Aside0 (Below w.heap.size w (((((((((((((((w8.setCell ⟨w.heap.size + 1, 0, none⟩ (.int .i64 code)).setCell ⟨w.heap.size + 1, 1, none⟩ (.int .i64 line)).setCell ⟨w.heap.size + 1, 2, none⟩ (.int .i64 col)).setCell ⟨w.heap.size + 1, 3, none⟩ (.int .i64 cnt)).setCell ⟨w.heap.size + 1, 4, none⟩ (.string T)).setCell ⟨w.heap.size + 1, 5, none⟩ (.slice B j capb)).setCell ⟨w.heap.size + 1, 6, none⟩ (.slice M k capm)).setCell ⟨w.heap.size + 1 + 1, 0, none⟩ (.int .i64 code)).setCell ⟨w.heap.size + 1 + 1, 1, none⟩ (.int .i64 line)).setCell ⟨w.heap.size + 1 + 1, 2, none⟩ (.int .i64 col)).setCell ⟨w.heap.size + 1 + 1, 3, none⟩ (.int .i64 cnt)).setCell ⟨w.heap.size + 1 + 1, 4, none⟩ (.string T)).setCell ⟨w.heap.size + 1 + 1, 5, none⟩ (.slice B j capb)).setCell ⟨w.heap.size + 1 + 1, 6, none⟩ (.slice M k capm)))) := ⟨put7_below (put7_below HG8.out.lo (by show w.heap.size ≤ w.heap.size + 1; omega) (.int .i64 code) (.int .i64 line) (.int .i64 col) (.int .i64 cnt) (.string T) (.slice B j capb) (.slice M k capm)) (by show w.heap.size ≤ w.heap.size + 1 + 1; omega) (.int .i64 code) (.int .i64 line) (.int .i64 col) (.int .i64 cnt) (.string T) (.slice B j capb) (.slice M k capm)⟩
                  have HSA : ∀ t, t ≠ 44 → t ≠ 48 → SameT t w8 (((((((((((((((w8.setCell ⟨w.heap.size + 1, 0, none⟩ (.int .i64 code)).setCell ⟨w.heap.size + 1, 1, none⟩ (.int .i64 line)).setCell ⟨w.heap.size + 1, 2, none⟩ (.int .i64 col)).setCell ⟨w.heap.size + 1, 3, none⟩ (.int .i64 cnt)).setCell ⟨w.heap.size + 1, 4, none⟩ (.string T)).setCell ⟨w.heap.size + 1, 5, none⟩ (.slice B j capb)).setCell ⟨w.heap.size + 1, 6, none⟩ (.slice M k capm)).setCell ⟨w.heap.size + 1 + 1, 0, none⟩ (.int .i64 code)).setCell ⟨w.heap.size + 1 + 1, 1, none⟩ (.int .i64 line)).setCell ⟨w.heap.size + 1 + 1, 2, none⟩ (.int .i64 col)).setCell ⟨w.heap.size + 1 + 1, 3, none⟩ (.int .i64 cnt)).setCell ⟨w.heap.size + 1 + 1, 4, none⟩ (.string T)).setCell ⟨w.heap.size + 1 + 1, 5, none⟩ (.slice B j capb)).setCell ⟨w.heap.size + 1 + 1, 6, none⟩ (.slice M k capm))) := fun t h1 h2 => (put7_same HG8.out.a h1 (.int .i64 code) (.int .i64 line) (.int .i64 col) (.int .i64 cnt) (.string T) (.slice B j capb) (.slice M k capm)).trans (put7_same ((put7_far (.int .i64 code) (.int .i64 line) (.int .i64 col) (.int .i64 cnt) (.string T) (.slice B j capb) (.slice M k capm) _ hne5).trans HG8.out.b) h2 (.int .i64 code) (.int .i64 line) (.int .i64 col) (.int .i64 cnt) (.string T) (.slice B j capb) (.slice M k capm))
                  have HOZ := Aside0.mk (own_same HO8.out (HSA _ (by decide) (by decide)))
                  have HFZ := Aside0.mk (own_same HF8.out (HSA _ (by decide) (by decide)))
                  clear HSA
                  obtain ⟨w9, hw9⟩ : ∃ w9, w9 = ((((((((((((((w8.setCell ⟨w.heap.size + 1, 0, none⟩ (.int .i64 code)).setCell ⟨w.heap.size + 1, 1, none⟩ (.int .i64 line)).setCell ⟨w.heap.size + 1, 2, none⟩ (.int .i64 col)).setCell ⟨w.heap.size + 1, 3, none⟩ (.int .i64 cnt)).setCell ⟨w.heap.size + 1, 4, none⟩ (.string T)).setCell ⟨w.heap.size + 1, 5, none⟩ (.slice B j capb)).setCell ⟨w.heap.size + 1, 6, none⟩ (.slice M k capm)).setCell ⟨w.heap.size + 1 + 1, 0, none⟩ (.int .i64 code)).setCell ⟨w.heap.size + 1 + 1, 1, none⟩ (.int .i64 line)).setCell ⟨w.heap.size + 1 + 1, 2, none⟩ (.int .i64 col)).setCell ⟨w.heap.size + 1 + 1, 3, none⟩ (.int .i64 cnt)).setCell ⟨w.heap.size + 1 + 1, 4, none⟩ (.string T)).setCell ⟨w.heap.size + 1 + 1, 5, none⟩ (.slice B j capb)).setCell ⟨w.heap.size + 1 + 1, 6, none⟩ (.slice M k capm)) := ⟨_, rfl⟩
                  rw [← hw9] at HGA HGB HLOW HOZ HFZ
                  rw [← hw9]
                  clear hw9
                  refine bodyPost_ret (results_cc rfl _ _ (w.heap.size + 1) (w.heap.size + 1 + 1) 44 48 #[.int .i64 code, .int .i64 line, .int .i64 col, .int .i64 cnt, .string T, .slice B j capb, .slice M k capm] #[.int .i64 code, .int .i64 line, .int .i64 col, .int .i64 cnt, .string T, .slice B j capb, .slice M k capm] (0, 0) (0, 0) _ _ rfl (blk_drew HGA.out) Try.underlying44 rfl (by kernel_rfl) rfl (blk_drew HGB.out) Try.underlying48 rfl (by kernel_rfl)) rfl ?_
                  exact toldA HJX.out HKX.out HOZ.out.drew HFZ.out.drew (below_drew HLOW.out)
              · have d4 : decide ((k : Int) < (us.length : Int)) = true := by simp; omega
                have d6 : decide (k < us.length) = true := by simp; omega
                have d5 : decide ((k : Int) < 50) = false := by simp; omega
                clear hv hkx HLE2
                go_wp2_with fail
                obtain ⟨w8, hw8⟩ : ∃ w8, w8 = wr.setCell ⟨g5, 6, none⟩ (.slice M k capm) := ⟨_, rfl⟩
                rw [← hw8] at HG8 HO8 HF8
                simp only [← hw8]
                clear hw8 z6_ zg fg HG HF HO7
                have hfar := HG8.out.far
                have hne1 : w.heap.size + 1 + 1 + 1 ≠ w.heap.size + 1 := by omega
                have hne2 : w.heap.size + 1 + 1 + 1 ≠ w.heap.size + 1 + 1 := by omega
                have hne3 : g5 ≠ w.heap.size + 1 := by omega
                have hne4 : g5 ≠ w.heap.size + 1 + 1 := by omega
                have hne5 : w.heap.size + 1 + 1 ≠ w.heap.size + 1 := by omega
                obtain ⟨a0, a1, a2, a3, a4, a5, a6, fa0, fa1, fa2, fa3, fa4, fa5, fa6⟩ := cells14 HG8.out.a
                obtain ⟨b0, b1, b2, b3, b4, b5, b6, fb0, fb1, fb2, fb3, fb4, fb5, fb6⟩ := cells14 HG8.out.b
                go_region_held3 (fun w' => w'.cell? ⟨w.heap.size + 1 + 1 + 1, 0, none⟩ = some (.int .i64 code) ∧ w'.cell? ⟨w.heap.size + 1 + 1 + 1, 1, none⟩ = some (.int .i64 line) ∧ w'.cell? ⟨w.heap.size + 1 + 1 + 1, 2, none⟩ = some (.int .i64 col) ∧ w'.cell? ⟨w.heap.size + 1 + 1 + 1, 3, none⟩ = some (.int .i64 cnt) ∧ w'.cell? ⟨w.heap.size + 1 + 1 + 1, 4, none⟩ = some (.string T) ∧ w'.cell? ⟨w.heap.size + 1 + 1 + 1, 5, none⟩ = some (.slice B j capb) ∧ w'.cell? ⟨w.heap.size + 1 + 1 + 1, 6, none⟩ = some (.slice M k capm) ∧ w'.cell? ⟨g5, 0, none⟩ = some (.int .i64 code) ∧ w'.cell? ⟨g5, 1, none⟩ = some (.int .i64 line) ∧ w'.cell? ⟨g5, 2, none⟩ = some (.int .i64 col) ∧ w'.cell? ⟨g5, 3, none⟩ = some (.int .i64 cnt) ∧ w'.cell? ⟨g5, 4, none⟩ = some (.string T) ∧ w'.cell? ⟨g5, 5, none⟩ = some (.slice B j capb) ∧ w'.cell? ⟨g5, 6, none⟩ = some (.slice M k capm)) (first | (with_reducible exact c14 HG8.out.c HG8.out.d) | (with_reducible exact c14 (blk_drew HG8.out.c) (blk_drew HG8.out.d)) | (with_reducible exact c14 ((put7_far _ _ _ _ _ _ _ _ hne1).trans HG8.out.c) ((put7_far _ _ _ _ _ _ _ _ hne3).trans HG8.out.d)) | (with_reducible exact c14 (blk_drew ((put7_far _ _ _ _ _ _ _ _ hne1).trans HG8.out.c)) (blk_drew ((put7_far _ _ _ _ _ _ _ _ hne3).trans HG8.out.d))) | (with_reducible exact c14 ((put7_far _ _ _ _ _ _ _ _ hne2).trans ((put7_far _ _ _ _ _ _ _ _ hne1).trans HG8.out.c)) ((put7_far _ _ _ _ _ _ _ _ hne4).trans ((put7_far _ _ _ _ _ _ _ _ hne3).trans HG8.out.d))) | (with_reducible exact c14 (blk_drew ((put7_far _ _ _ _ _ _ _ _ hne2).trans ((put7_far _ _ _ _ _ _ _ _ hne1).trans HG8.out.c))) (blk_drew ((put7_far _ _ _ _ _ _ _ _ hne4).trans ((put7_far _ _ _ _ _ _ _ _ hne3).trans HG8.out.d)))) | go_keep) (fail)
                all_goals
                  clear a0 fa0 b0 fb0 a1 fa1 b1 fb1 a2 fa2 b2 fb2 a3 fa3 b3 fb3 a4 fa4 b4 fb4 a5 fa5 b5 fb5 a6 fa6 b6 fb6
                  go_wp2_with fail
                  have HGA : Aside0 ((((((((((((((((w8.setCell ⟨w.heap.size + 1, 0, none⟩ (.int .i64 code)).setCell ⟨w.heap.size + 1, 1, none⟩ (.int .i64 line)).setCell ⟨w.heap.size + 1, 2, none⟩ (.int .i64 col)).setCell ⟨w.heap.size + 1, 3, none⟩ (.int .i64 cnt)).setCell ⟨w.heap.size + 1, 4, none⟩ (.string T)).setCell ⟨w.heap.size + 1, 5, none⟩ (.slice B j capb)).setCell ⟨w.heap.size + 1, 6, none⟩ (.slice M k capm)).setCell ⟨w.heap.size + 1 + 1, 0, none⟩ (.int .i64 code)).setCell ⟨w.heap.size + 1 + 1, 1, none⟩ (.int .i64 line)).setCell ⟨w.heap.size + 1 + 1, 2, none⟩ (.int .i64 col)).setCell ⟨w.heap.size + 1 + 1, 3, none⟩ (.int .i64 cnt)).setCell ⟨w.heap.size + 1 + 1, 4, none⟩ (.string T)).setCell ⟨w.heap.size + 1 + 1, 5, none⟩ (.slice B j capb)).setCell ⟨w.heap.size + 1 + 1, 6, none⟩ (.slice M k capm))).heap[w.heap.size + 1]? = some (.cells #[.int .i64 code, .int .i64 line, .int .i64 col, .int .i64 cnt, .string T, .slice B j capb, .slice M k capm] 44 (0, 0))) := ⟨(put7_far (.int .i64 code) (.int .i64 line) (.int .i64 col) (.int .i64 cnt) (.string T) (.slice B j capb) (.slice M k capm) _ (Ne.symm hne5)).trans (put7 HG8.out.a (.int .i64 code) (.int .i64 line) (.int .i64 col) (.int .i64 cnt) (.string T) (.slice B j capb) (.slice M k capm))⟩
                  have HGB : Aside0 ((((((((((((((((w8.setCell ⟨w.heap.size + 1, 0, none⟩ (.int .i64 code)).setCell ⟨w.heap.size + 1, 1, none⟩ (.int .i64 line)).setCell ⟨w.heap.size + 1, 2, none⟩ (.int .i64 col)).setCell ⟨w.heap.size + 1, 3, none⟩ (.int .i64 cnt)).setCell ⟨w.heap.size + 1, 4, none⟩ (.string T)).setCell ⟨w.heap.size + 1, 5, none⟩ (.slice B j capb)).setCell ⟨w.heap.size + 1, 6, none⟩ (.slice M k capm)).setCell ⟨w.heap.size + 1 + 1, 0, none⟩ (.int .i64 code)).setCell ⟨w.heap.size + 1 + 1, 1, none⟩ (.int .i64 line)).setCell ⟨w.heap.size + 1 + 1, 2, none⟩ (.int .i64 col)).setCell ⟨w.heap.size + 1 + 1, 3, none⟩ (.int .i64 cnt)).setCell ⟨w.heap.size + 1 + 1, 4, none⟩ (.string T)).setCell ⟨w.heap.size + 1 + 1, 5, none⟩ (.slice B j capb)).setCell ⟨w.heap.size + 1 + 1, 6, none⟩ (.slice M k capm))).heap[w.heap.size + 1 + 1]? = some (.cells #[.int .i64 code, .int .i64 line, .int .i64 col, .int .i64 cnt, .string T, .slice B j capb, .slice M k capm] 48 (0, 0))) := ⟨put7 ((put7_far (.int .i64 code) (.int .i64 line) (.int .i64 col) (.int .i64 cnt) (.string T) (.slice B j capb) (.slice M k capm) _ hne5).trans HG8.out.b) (.int .i64 code) (.int .i64 line) (.int .i64 col) (.int .i64 cnt) (.string T) (.slice B j capb) (.slice M k capm)⟩
                  have HLOW : Aside0 (Below w.heap.size w (((((((((((((((w8.setCell ⟨w.heap.size + 1, 0, none⟩ (.int .i64 code)).setCell ⟨w.heap.size + 1, 1, none⟩ (.int .i64 line)).setCell ⟨w.heap.size + 1, 2, none⟩ (.int .i64 col)).setCell ⟨w.heap.size + 1, 3, none⟩ (.int .i64 cnt)).setCell ⟨w.heap.size + 1, 4, none⟩ (.string T)).setCell ⟨w.heap.size + 1, 5, none⟩ (.slice B j capb)).setCell ⟨w.heap.size + 1, 6, none⟩ (.slice M k capm)).setCell ⟨w.heap.size + 1 + 1, 0, none⟩ (.int .i64 code)).setCell ⟨w.heap.size + 1 + 1, 1, none⟩ (.int .i64 line)).setCell ⟨w.heap.size + 1 + 1, 2, none⟩ (.int .i64 col)).setCell ⟨w.heap.size + 1 + 1, 3, none⟩ (.int .i64 cnt)).setCell ⟨w.heap.size + 1 + 1, 4, none⟩ (.string T)).setCell ⟨w.heap.size + 1 + 1, 5, none⟩ (.slice B j capb)).setCell ⟨w.heap.size + 1 + 1, 6, none⟩ (.slice M k capm)))) := ⟨put7_below (put7_below HG8.out.lo (by show w.heap.size ≤ w.heap.size + 1; omega) (.int .i64 code) (.int .i64 line) (.int .i64 col) (.int .i64 cnt) (.string T) (.slice B j capb) (.slice M k capm)) (by show w.heap.size ≤ w.heap.size + 1 + 1; omega) (.int .i64 code) (.int .i64 line) (.int .i64 col) (.int .i64 cnt) (.string T) (.slice B j capb) (.slice M k capm)⟩
                  have HSA : ∀ t, t ≠ 44 → t ≠ 48 → SameT t w8 (((((((((((((((w8.setCell ⟨w.heap.size + 1, 0, none⟩ (.int .i64 code)).setCell ⟨w.heap.size + 1, 1, none⟩ (.int .i64 line)).setCell ⟨w.heap.size + 1, 2, none⟩ (.int .i64 col)).setCell ⟨w.heap.size + 1, 3, none⟩ (.int .i64 cnt)).setCell ⟨w.heap.size + 1, 4, none⟩ (.string T)).setCell ⟨w.heap.size + 1, 5, none⟩ (.slice B j capb)).setCell ⟨w.heap.size + 1, 6, none⟩ (.slice M k capm)).setCell ⟨w.heap.size + 1 + 1, 0, none⟩ (.int .i64 code)).setCell ⟨w.heap.size + 1 + 1, 1, none⟩ (.int .i64 line)).setCell ⟨w.heap.size + 1 + 1, 2, none⟩ (.int .i64 col)).setCell ⟨w.heap.size + 1 + 1, 3, none⟩ (.int .i64 cnt)).setCell ⟨w.heap.size + 1 + 1, 4, none⟩ (.string T)).setCell ⟨w.heap.size + 1 + 1, 5, none⟩ (.slice B j capb)).setCell ⟨w.heap.size + 1 + 1, 6, none⟩ (.slice M k capm))) := fun t h1 h2 => (put7_same HG8.out.a h1 (.int .i64 code) (.int .i64 line) (.int .i64 col) (.int .i64 cnt) (.string T) (.slice B j capb) (.slice M k capm)).trans (put7_same ((put7_far (.int .i64 code) (.int .i64 line) (.int .i64 col) (.int .i64 cnt) (.string T) (.slice B j capb) (.slice M k capm) _ hne5).trans HG8.out.b) h2 (.int .i64 code) (.int .i64 line) (.int .i64 col) (.int .i64 cnt) (.string T) (.slice B j capb) (.slice M k capm))
                  have HOZ := Aside0.mk (own_same HO8.out (HSA _ (by decide) (by decide)))
                  have HFZ := Aside0.mk (own_same HF8.out (HSA _ (by decide) (by decide)))
                  clear HSA
                  obtain ⟨w9, hw9⟩ : ∃ w9, w9 = ((((((((((((((w8.setCell ⟨w.heap.size + 1, 0, none⟩ (.int .i64 code)).setCell ⟨w.heap.size + 1, 1, none⟩ (.int .i64 line)).setCell ⟨w.heap.size + 1, 2, none⟩ (.int .i64 col)).setCell ⟨w.heap.size + 1, 3, none⟩ (.int .i64 cnt)).setCell ⟨w.heap.size + 1, 4, none⟩ (.string T)).setCell ⟨w.heap.size + 1, 5, none⟩ (.slice B j capb)).setCell ⟨w.heap.size + 1, 6, none⟩ (.slice M k capm)).setCell ⟨w.heap.size + 1 + 1, 0, none⟩ (.int .i64 code)).setCell ⟨w.heap.size + 1 + 1, 1, none⟩ (.int .i64 line)).setCell ⟨w.heap.size + 1 + 1, 2, none⟩ (.int .i64 col)).setCell ⟨w.heap.size + 1 + 1, 3, none⟩ (.int .i64 cnt)).setCell ⟨w.heap.size + 1 + 1, 4, none⟩ (.string T)).setCell ⟨w.heap.size + 1 + 1, 5, none⟩ (.slice B j capb)).setCell ⟨w.heap.size + 1 + 1, 6, none⟩ (.slice M k capm)) := ⟨_, rfl⟩
                  rw [← hw9] at HGA HGB HLOW HOZ HFZ
                  rw [← hw9]
                  clear hw9
                  refine bodyPost_ret (results_cc rfl _ _ (w.heap.size + 1) (w.heap.size + 1 + 1) 44 48 #[.int .i64 code, .int .i64 line, .int .i64 col, .int .i64 cnt, .string T, .slice B j capb, .slice M k capm] #[.int .i64 code, .int .i64 line, .int .i64 col, .int .i64 cnt, .string T, .slice B j capb, .slice M k capm] (0, 0) (0, 0) _ _ rfl (blk_drew HGA.out) Try.underlying44 rfl (by kernel_rfl) rfl (blk_drew HGB.out) Try.underlying48 rfl (by kernel_rfl)) rfl ?_
                  exact toldA HJX.out HKX.out HOZ.out.drew HFZ.out.drew (below_drew HLOW.out)
end Go.Proofs.Ytnajmemcdipknaa.PK
