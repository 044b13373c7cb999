/- OctetsNil, the walk: whatever the item, the Go code answers yes. Condition: none but the item's lists' being readable. -/
import Derived.Test.YtcflcmoblngfbaaKy
import Derived.Test.YtcflcmoblngfbaaKc
namespace Go.Proofs.Ytcflcmoblngfbaa.PK
open Go.RowKit Go.Proofs.YtcflcmoblngfbaaW.PrintWords Go.Proofs.YtcflcmoblngfbaaW.PrintLast Go.Proofs.YtcflcmoblngfbaaW.PrintMore
open Go.ChangeShapes Go.WideShapes
set_option linter.unusedVariables false
set_option linter.unusedSimpArgs false
theorem nil_ready (w : World) : Calls Try.prog 39 #[.pointer none] w fun e w' => e = .returned (.bool false) ∧ w' = w := by
  go_enter Try.func39, Try.ntmps39
  go_wp2
  go_ret
  exact ⟨rfl, rfl⟩
theorem nil_In_Int (w : World) : Calls Try.prog 17 #[.pointer none] w fun e w' => e = .returned (.int .i64 0) ∧ w' = w := by
  go_enter Try.func17, Try.ntmps17
  go_wp2_with (go_at_call 39; refine (nil_ready _).mono ?_; rintro e w' ⟨rfl, rfl⟩)
  go_ret
  exact ⟨rfl, rfl⟩
theorem nil_In_Bool (w : World) : Calls Try.prog 20 #[.pointer none] w fun e w' => e = .returned (.bool false) ∧ w' = w := by
  go_enter Try.func20, Try.ntmps20
  go_wp2_with (go_at_call 39; refine (nil_ready _).mono ?_; rintro e w' ⟨rfl, rfl⟩)
  go_ret
  exact ⟨rfl, rfl⟩
theorem nil_In_Text (w : World) : Calls Try.prog 22 #[.pointer none] w fun e w' => e = .returned (.string ⟨#[]⟩) ∧ w' = w := by
  go_enter Try.func22, Try.ntmps22
  go_wp2_with (go_at_call 39; refine (nil_ready _).mono ?_; rintro e w' ⟨rfl, rfl⟩)
  go_ret
  exact ⟨rfl, rfl⟩
theorem nil_In_Ints (n : Int) (w : World) : Calls Try.prog 25 #[.pointer none, .int .i64 n] w fun e w' => e = .returned (.slice none 0 0) ∧ w' = w := by
  go_enter Try.func25, Try.ntmps25
  go_wp2_with (go_at_call 39; refine (nil_ready _).mono ?_; rintro e w' ⟨rfl, rfl⟩)
  go_ret
  exact ⟨rfl, rfl⟩
theorem nil_In_Texts (n : Int) (w : World) : Calls Try.prog 27 #[.pointer none, .int .i64 n] w fun e w' => e = .returned (.slice none 0 0) ∧ w' = w := by
  go_enter Try.func27, Try.ntmps27
  go_wp2_with (go_at_call 39; refine (nil_ready _).mono ?_; rintro e w' ⟨rfl, rfl⟩)
  go_ret
  exact ⟨rfl, rfl⟩
theorem nil_In_Err (w : World) : Calls Try.prog 18 #[.pointer none] w fun e w' => e = .returned (.int .i64 1) ∧ w' = w := by
  go_enter Try.func18, Try.ntmps18
  go_wp2
  go_ret
  exact ⟨rfl, rfl⟩
theorem nil_In_End (w : World) : Calls Try.prog 29 #[.pointer none] w fun e w' => e = .returned (.int .i64 1) ∧ w' = w := by
  go_enter Try.func29, Try.ntmps29
  go_wp2_with (go_at_call 18; refine (nil_In_Err _).mono ?_; rintro e w' ⟨rfl, rfl⟩)
  go_ret
  exact ⟨rfl, rfl⟩
theorem and15 (x : Int) : 0 ≤ Go.bits .and .i64 x 15 ∧ Go.bits .and .i64 x 15 ≤ 15 := by
  have h : Go.bits .and .i64 x 15 = IntKind.i64.wrap ((BitVec.ofInt 64 x &&& BitVec.ofInt 64 15).toNat : Int) := rfl
  have e : (BitVec.ofInt 64 15).toNat = 15 := by decide +kernel
  rw [h, BitVec.toNat_and, e]
  have hle : (BitVec.ofInt 64 x).toNat &&& 15 ≤ 15 := Nat.and_le_right
  rw [IntKind.wrap_i64]
  omega
/-- An Out stays, where another one is written, whose base is above it. -/
theorem OutB.far {w w1 : World} {b o : Nat} {T : TypeId} {cs : Array Value} {base : Nat} {l : List Int} {bad : Bool} (h : OutB w b o T cs base l bad) {b2 base2 : Nat} (hk : OutK w w1 b2 base2) (hb : b ≠ b2) (hz : w.heap.size ≤ base2) {cs2 : Array Value} {T2 : TypeId} (h2 : Blk w b2 T2 cs2) (hT : T2 ≠ 5) : OutB w1 b o T cs base l bad := by
  obtain ⟨v, h1, hh, h3, h4⟩ := h
  refine ⟨v, h1, (hk.old b (Nat.lt_of_lt_of_le hh.lt hz) hb).trans hh, own_move h3 (fun k hk' => hk.old k (Nat.lt_of_lt_of_le (own_lt h3 k hk') hz) (fun e => ?_)), h4⟩
  exact own_blk_ne h3 h2 (fun e => hT e.symm) (by rw [← e]; exact hk')
theorem zeros_bad (m : Nat) : badInts (List.replicate m (0 : Int)) = !decide (m ≤ 65536) := by
  have h : ((List.replicate m (0 : Int)).any fun n => !fitsN n) = false := by
    rw [List.any_eq_false]
    intro x hx
    obtain rfl := List.eq_of_mem_replicate hx
    decide
  unfold badInts
  rw [h, Bool.or_false, List.length_replicate]
  congr 1
  rw [decide_eq_decide]
  omega
theorem made_C (W : World) (g N : Nat) (h : Blk W g 3 (madeCells #[.int .i64 0] N)) (hN : N ≤ 9223372036854775807) : Kd.C (Kd.int .i64) W (some ⟨g, 0, none⟩) (List.replicate N (0 : Int)).length (List.replicate N (0 : Int)) := by
  refine ⟨rfl, by rw [List.length_replicate]; exact hN, fun _ => ⟨_, rfl, fun j p hj => ⟨[.int .i64 p], rfl, rfl, fun i u hi => ?_⟩⟩⟩
  have hjn : j < N := by
    have := (List.getElem?_eq_some_iff.mp hj).1
    rwa [List.length_replicate] at this
  have hp : p = 0 := by
    rw [List.getElem?_replicate, if_pos hjn] at hj
    exact (Option.some.inj hj).symm
  subst hp
  have hi0 : i = 0 := by
    have := (List.getElem?_eq_some_iff.mp hi).1
    simp at this
    exact this
  subst hi0
  have hu : u = .int .i64 0 := (Option.some.inj hi).symm
  subst hu
  have ha : (⟨g, 0, none⟩ : Addr).add (j * (Kd.int .i64).sz + 0) = ⟨g, j, none⟩ := by
    show (⟨g, 0, none⟩ : Addr).add (j * 1 + 0) = _
    unfold Addr.add
    split <;> simp_all
  rw [ha, h.cell]
  have hm : j % 1 = 0 := by omega
  simp [madeCells, hjn, hm]
theorem three (W : World) (a b c : Obj) : (((W.alloc a).alloc b).alloc c).heap[W.heap.size]? = some a ∧ (((W.alloc a).alloc b).alloc c).heap[W.heap.size + 1]? = some b ∧ (((W.alloc a).alloc b).alloc c).heap.size = W.heap.size + 3 ∧ Below W.heap.size W (((W.alloc a).alloc b).alloc c) := by
  have e1 : (W.alloc a).heap.size = W.heap.size + 1 := by simp
  have e2 : ((W.alloc a).alloc b).heap.size = W.heap.size + 2 := by simp
  have h1 := heap_alloc_new W a
  have h2 := heap_alloc_new (W.alloc a) b
  have b0 := below_alloc (Below.refl W.heap.size W) a
  have b1 := below_alloc b0 b
  have b2 := below_alloc b1 c
  have c1 := below_alloc (Below.refl (W.alloc a).heap.size (W.alloc a)) b
  have c2 := below_alloc c1 c
  have d2 := below_alloc (Below.refl ((W.alloc a).alloc b).heap.size ((W.alloc a).alloc b)) c
  refine ⟨(c2.block _ (by omega)).trans h1, ?_, by simp, b2⟩
  rw [← e1]
  exact (d2.block _ (by omega)).trans h2
set_option maxHeartbeats 1600000 in
set_option maxRecDepth 100000 in
theorem nil_calls (k n : Int) (b : Bool) (t : ByteArray) (A4 : Option Addr) (c4 : Nat) (ns : List Int) (A5 : Option Addr) (c5 : Nat) (ts : List ByteArray) (x : Int) (w : World)
    (hR4 : Kd.C (Kd.int .i64) w A4 ns.length ns) (hc4 : ns.length ≤ c4) (hR5 : Kd.C Kd.string w A5 ts.length ts) (hc5 : ts.length ≤ c5) :
    Calls Try.prog 7 #[.agg #[.int .i64 k, .int .i64 n, .bool b, .string t, .slice A4 ns.length c4, .slice A5 ts.length c5], .int .i64 x] w fun e w' => e = .returned (.bool true) ∧ Below w.heap.size w w' := by
  have hu := Try.underlying60
  have HR4 := Aside0.mk hR4
  have HR5 := Aside0.mk hR5
  clear hR4 hR5
  obtain ⟨r, hr⟩ : ∃ r, Go.bits .and .i64 x 15 = r := ⟨_, rfl⟩
  have hr15 := and15 x
  rw [hr] at hr15
  obtain ⟨r0, r1⟩ := hr15
  obtain ⟨N, hN⟩ : ∃ N : Nat, (65530 + r).toNat = N := ⟨_, rfl⟩
  have hN2 : (N : Int) = 65530 + r := by omega
  have hmkB := print_make_int (P := Try.prog) 32 5 (.int .u8 0) 1 Try.underlying32 info5q rfl (by decide) (65530 + r) (by omega) (by omega)
  have hmkI := print_make_int (P := Try.prog) 31 3 (.int .i64 0) 8 Try.underlying31 info3q rfl (by decide) (65530 + r) (by omega) (by omega)
  rw [hN] at hmkB hmkI
  obtain ⟨Z, hZ⟩ : ∃ Z, strOfNums (List.replicate N 0) = Z := ⟨_, rfl⟩
  have hZs : Z.size = N := by rw [← hZ, strOfNums_size, List.length_replicate]
  have hcv : ∀ W : World, (convert 32 9 (.slice (some ⟨W.heap.size + 1 + 1, 0, none⟩) N N)).run Try.prog (((W.alloc (.cells #[.slice none 0 0, .bool false] 34)).alloc (.cells #[.slice none 0 0, .bool false] 34)).alloc (.cells (madeCells #[.int .u8 0] N) 5)) = .ok (.string Z) (((W.alloc (.cells #[.slice none 0 0, .bool false] 34)).alloc (.cells #[.slice none 0 0, .bool false] 34)).alloc (.cells (madeCells #[.int .u8 0] N) 5)) := by
    intro W
    have h := own_string (P := Try.prog) Try.underlying32 Try.underlying5 Try.underlying9 (own_made ((W.alloc (.cells #[.slice none 0 0, .bool false] 34)).alloc (.cells #[.slice none 0 0, .bool false] 34)) 0 5 .u8 N (Nat.zero_le _) (by omega))
    rw [hZ] at h
    simpa using h
  clear hN hZ
  go_enter Try.func7, Try.ntmps7
  go_wp2_with fail
  have hnew := heap_alloc_new w (.cells #[.int .i64 k, .int .i64 n, .bool b, .string t, .slice A4 ns.length c4, .slice A5 ts.length c5] 60)
  have hb0 := below_alloc (Below.refl w.heap.size w) (.cells #[.int .i64 k, .int .i64 n, .bool b, .string t, .slice A4 ns.length c4, .slice A5 ts.length c5] 60)
  refine (primerlaw01_speaks.calls true _ rfl).mono ?_
  rintro e w1 ⟨rfl, hb1⟩
  have HB1 := Aside0.mk (below_then hb0 hb0.size hb1)
  have hB1 := (hb1.block w.heap.size (blk_lt hnew)).trans hnew
  have hcz0 : w1.cell? ⟨w.heap.size, 0, none⟩ = some (.int .i64 k) := (blk_cell hB1 0).trans rfl
  have hcz1 : w1.cell? ⟨w.heap.size, 1, none⟩ = some (.int .i64 n) := (blk_cell hB1 1).trans rfl
  have hcz2 : w1.cell? ⟨w.heap.size, 2, none⟩ = some (.bool b) := (blk_cell hB1 2).trans rfl
  have hcz3 : w1.cell? ⟨w.heap.size, 3, none⟩ = some (.string t) := (blk_cell hB1 3).trans rfl
  have hcz4 : w1.cell? ⟨w.heap.size, 4, none⟩ = some (.slice A4 ns.length c4) := (blk_cell hB1 4).trans rfl
  have hcz5 : w1.cell? ⟨w.heap.size, 5, none⟩ = some (.slice A5 ts.length c5) := (blk_cell hB1 5).trans rfl
  clear hnew hb0 hb1 hB1
  go_wp2_with fail
  refine (write_calls (takes_nil w) (fun _ _ _ _ h hb => below_then h h.size hb) k n b t A4 c4 ns A5 c5 ts [] false w1 HB1.out (fun w' _ _ h => Kd.C_below HR4.out h) hc4 (fun w' _ _ h => Kd.C_below HR5.out h) hc5 (fun _ _ => trivial)).mono ?_
  rintro e w2 ⟨rfl, hb2⟩
  have HB2 := Aside0.mk hb2
  clear hb2 hcz0 hcz1 hcz2 hcz3 hcz4 hcz5 HB1
  go_wp2_with fail
  refine (nil_bytes _).mono ?_
  rintro e w3 ⟨rfl, rfl⟩
  go_wp2_with (first
    | (go_at_call 17; refine (nil_In_Int _).mono ?_; rintro e w' ⟨rfl, rfl⟩)
    | (go_at_call 20; refine (nil_In_Bool _).mono ?_; rintro e w' ⟨rfl, rfl⟩)
    | (go_at_call 22; refine (nil_In_Text _).mono ?_; rintro e w' ⟨rfl, rfl⟩)
    | (go_at_call 25; refine (nil_In_Ints _ _).mono ?_; rintro e w' ⟨rfl, rfl⟩)
    | (go_at_call 27; refine (nil_In_Texts _ _).mono ?_; rintro e w' ⟨rfl, rfl⟩)
    | (go_at_call 18; refine (nil_In_Err _).mono ?_; rintro e w' ⟨rfl, rfl⟩)
    | (go_at_call 29; refine (nil_In_End _).mono ?_; rintro e w' ⟨rfl, rfl⟩))
  have hs1 := HB2.out.size
  obtain ⟨ha1, ha2, ha3, ha4⟩ := three w' (.cells #[.slice none 0 0, .bool false] 34) (.cells #[.slice none 0 0, .bool false] 34) (.cells (madeCells #[.int .u8 0] N) 5)
  refine (out_text w'.heap.size 0 34 #[.bool false, .bool false] (w'.heap.size + 3) [] false _ (OutB.new _ _ _ _ (by decide) ha1) (by rw [ha3]; exact Nat.le_refl _) Z (by simp)).mono ?_
  rintro e w4 ⟨rfl, ho4, hk4⟩
  have hz4 : w'.heap.size + 3 ≤ w4.heap.size := by have := hk4.size; rw [ha3] at this; exact this
  have HP4 := Aside0.mk ho4
  have HQ4 := Aside0.mk ((hk4.old (w'.heap.size + 1) (by omega) (by omega)).trans ha2)
  have HB4 := Aside0.mk ((below_then HB2.out hs1 ha4).trans (hk4.below (B := w.heap.size) (by omega) hs1))
  clear ho4 hk4 ha1 ha2 ha3 ha4 hmkB hcv HB2
  obtain ⟨L1, hL1⟩ : ∃ L1, L1 = [] ++ textL Z := ⟨_, rfl⟩
  rw [← hL1] at HP4
  clear hL1
  go_wp2_with fail
  have hn5 := heap_alloc_new w4 (.cells (madeCells #[.int .i64 0] N) 3)
  have hb5 := below_alloc (Below.refl w4.heap.size w4) (.cells (madeCells #[.int .i64 0] N) 3)
  have hz5 : (w4.alloc (.cells (madeCells #[.int .i64 0] N) 3)).heap.size = w4.heap.size + 1 := by simp
  have hints := out_ints (takes_out (w4.alloc (.cells (madeCells #[.int .i64 0] N) 3)) (w'.heap.size + 1) 0 34 #[.bool false, .bool false] (w4.heap.size + 1)) (some ⟨w4.heap.size, 0, none⟩) N (List.replicate N (0 : Int)) [] false (w4.alloc (.cells (madeCells #[.int .i64 0] N) 3))
    ⟨OutB.new _ _ _ _ (by decide) ((hb5.block _ (by omega)).trans HQ4.out), OutK.refl _ _ _, by rw [hz5]; exact Nat.le_refl _⟩
    (fun w'' l' bad' h => made_C w'' w4.heap.size N ((h.2.1.old w4.heap.size (by omega) (by omega)).trans hn5) (by omega)) (fun m hm => by rw [List.length_replicate] at hm; simp only [List.length_nil] at hm; omega) ⟨_, rfl⟩
  rw [zeros_bad N] at hints
  obtain ⟨L2, hL2⟩ : ∃ L2, L2 = [] ++ intsL (List.replicate N (0 : Int)) := ⟨_, rfl⟩
  rw [← hL2] at hints
  rw [List.length_replicate] at hints
  clear hL2
  refine hints.mono ?_
  rintro e w6 ⟨rfl, ho6, hk6, hz6⟩
  have HP6 := Aside0.mk ((HP4.out.below hb5).far hk6 (by omega) (by rw [hz5]; exact Nat.le_refl _) ((hb5.block _ (by omega)).trans HQ4.out) (by decide))
  have HQ6 := Aside0.mk ho6
  have HB6 := Aside0.mk ((below_then HB4.out HB4.out.size hb5).trans (hk6.below (B := w.heap.size) (by omega) (by omega)))
  clear hints ho6 hk6 hz6 hn5 hb5 hz5 hmkI HP4 HQ4 HB4
  by_cases hle : N ≤ 65536
  · have hd1 : decide (65530 + r ≤ 65536) = true := by simp; omega
    have e1 : bytesR L1 (false || decide (65536 < Z.size)) = .tuple #[.string (strOfNums L1), .bool true] := by
      rw [show decide (65536 < Z.size) = false by simp; omega]; rfl
    have e2 : bytesR L2 (false || !decide (N ≤ 65536)) = .tuple #[.string (strOfNums L2), .bool true] := by
      rw [show decide (N ≤ 65536) = true by simp; omega]; rfl
    have E1 := Aside0.mk e1
    have E2 := Aside0.mk e2
    clear e1 e2
    go_wp2_with fail
    refine (out_bytes _ _ _ _ _ _ _ _ HP6.out).mono ?_
    rintro e w7 ⟨rfl, rfl⟩
    rw [E1.out]
    go_wp2_with fail
    refine (out_bytes _ _ _ _ _ _ _ _ HQ6.out).mono ?_
    rintro e w7 ⟨rfl, rfl⟩
    rw [E2.out]
    go_wp2
    go_ret
    exact ⟨rfl, HB6.out⟩
  · have hd1 : decide (65530 + r ≤ 65536) = false := by simp; omega
    have e1 : bytesR L1 (false || decide (65536 < Z.size)) = .tuple #[.string ⟨#[]⟩, .bool false] := by
      rw [show decide (65536 < Z.size) = true by simp; omega]; rfl
    have e2 : bytesR L2 (false || !decide (N ≤ 65536)) = .tuple #[.string ⟨#[]⟩, .bool false] := by
      rw [show decide (N ≤ 65536) = false by simp; omega]; rfl
    have E1 := Aside0.mk e1
    have E2 := Aside0.mk e2
    clear e1 e2
    go_wp2_with fail
    refine (out_bytes _ _ _ _ _ _ _ _ HP6.out).mono ?_
    rintro e w7 ⟨rfl, rfl⟩
    rw [E1.out]
    go_wp2_with fail
    refine (out_bytes _ _ _ _ _ _ _ _ HQ6.out).mono ?_
    rintro e w7 ⟨rfl, rfl⟩
    rw [E2.out]
    go_wp2
    go_ret
    exact ⟨rfl, HB6.out⟩
end Go.Proofs.Ytcflcmoblngfbaa.PK
