/- Functions of the given program as plain Lean functions, and that the Go code answers what they tell (a law's row: the given statement, out of its plain form). Conditions: none beyond each theorem's own premises. Written by this repo's program wip/myprint.py. -/
import Derived.Test.YtcflcmoblngfbaaPKx0
namespace Go.Proofs.Ytcflcmoblngfbaa.PK
open Go.RowKit Go.Proofs.YtcflcmoblngfbaaW.PrintWords Go.Proofs.YtcflcmoblngfbaaW.PrintLast Go.Proofs.YtcflcmoblngfbaaW.PrintMore
attribute [local go_sem] max2_int min2_int max_two min_two max_three min_three max_four min_four   -- for this text's walks alone
set_option linter.unusedVariables false
set_option linter.unusedSimpArgs false

/-- A state of type 75 at block g of W; what its slices lead to came in by w0. -/
def IsS75 (w0 W : World) (g : Nat) (f0 : ByteArray) (f1 : Int) : Prop := W.heap[g]? = some (.cells #[.string f0, .int .i64 f1] 75 (0, 0)) ∧ w0.heap.size ≤ g
theorem IsS75.grown {w0 W : World} {g : Nat} {f0 : ByteArray} {f1 : Int} {W1 : World} {row : Option Nat} (h : IsS75 w0 W g f0 f1) (hw : W.grownBy W1 row) (hne : some g ≠ row) : IsS75 w0 W1 g f0 f1 := by
  obtain ⟨hb, hg⟩ := h
  exact ⟨blk_grown hb hw hne, hg⟩
theorem IsS75.own_neN {w0 W : World} {g : Nat} {f0 : ByteArray} {f1 : Int} {α : Type} {d : Kd α} {e : Nat} {base : Nat} {ok : Nat → Prop} {v : Value} {xs : List α} (h : IsS75 w0 W g f0 f1) (ho : Kd.N d e W base ok v xs) (ht : e ≠ 75) : some g ≠ v.ownBlock := by
  obtain ⟨hb, hg⟩ := h
  exact Kd.N_ne ho hb ht
theorem IsS75.fresh {w0 W : World} {g : Nat} {f0 : ByteArray} {f1 : Int} (h : IsS75 w0 W g f0 f1) : ∀ k, W.heap.size ≤ k → k ≠ g := by
  obtain ⟨hb, hg⟩ := h
  exact Kd.freshB hb
theorem IsS75.kept {w0 W : World} {g : Nat} {f0 : ByteArray} {f1 : Int} {W1 : World} {S : Nat → Prop} (h : IsS75 w0 W g f0 f1) (hk : Kept W W1 S) (hne : ¬ S g) : IsS75 w0 W1 g f0 f1 := by
  obtain ⟨hb, hg⟩ := h
  exact ⟨blk_kept hb hk hne, hg⟩
theorem IsS75.below {w0 W : World} {g : Nat} {f0 : ByteArray} {f1 : Int} {W1 : World} (h : IsS75 w0 W g f0 f1) (hw : Below W.heap.size W W1) : IsS75 w0 W1 g f0 f1 := h.grown (grown_of_below hw none) (by simp)
theorem IsS75.alloc {w0 W : World} {g : Nat} {f0 : ByteArray} {f1 : Int} (h : IsS75 w0 W g f0 f1) (o : Obj) : IsS75 w0 (W.alloc o) g f0 f1 := h.below (below_alloc (Below.refl _ _) o)
theorem IsS75.drewN {w0 W : World} {g : Nat} {f0 : ByteArray} {f1 : Int} (h : IsS75 w0 W g f0 f1) (m : Nat) : IsS75 w0 (W.drewN m) g f0 f1 := h
theorem IsS75.drew {w0 W : World} {g : Nat} {f0 : ByteArray} {f1 : Int} (h : IsS75 w0 W g f0 f1) : IsS75 w0 W.drew g f0 f1 := h
theorem IsS75.at_ {w0 W : World} {g : Nat} {f0 : ByteArray} {f1 : Int} {w' : World} {m : Nat} (hq : W.drewN m = w') (h : IsS75 w0 W g f0 f1) : IsS75 w0 w' g f0 f1 := by subst hq; exact IsS75.drewN h m
theorem IsS75.apart {w0 W : World} {g : Nat} {f0 : ByteArray} {f1 : Int} {α : Type} {d : Kd α} {e : Nat} {base : Nat} {ok : Nat → Prop} {v : Value} {xs : List α} (h : IsS75 w0 W g f0 f1) (ho : d.R e W base ok v xs) (ht : ∀ q, q ∈ e :: d.E → q ≠ 75) : d.R e W base (fun k => ok k ∧ k ≠ g) v xs := by
  obtain ⟨hb, hg⟩ := h
  exact Kd.R_types ho hb ht
theorem IsS75.own_ne {w0 W : World} {g : Nat} {f0 : ByteArray} {f1 : Int} {α : Type} {d : Kd α} {e : Nat} {base : Nat} {ok : Nat → Prop} {v : Value} {xs : List α} (h : IsS75 w0 W g f0 f1) (ho : d.R e W base ok v xs) (ht : e ≠ 75) : some g ≠ v.ownBlock := by
  obtain ⟨hb, hg⟩ := h
  exact Kd.R_ne ho hb ht
theorem IsS75.apartQ {w0 W : World} {g : Nat} {f0 : ByteArray} {f1 : Int} {α : Type} {d : Kd α} {e : Nat} {base : Nat} {ok : Nat → Prop} {v : Value} {xs : List α} (h : IsS75 w0 W g f0 f1) (ho : d.Q e W base ok v xs) (ht : ∀ q, q ∈ e :: d.E → q ≠ 75) : d.Q e W base (fun k => ok k ∧ k ≠ g) v xs := by
  obtain ⟨hb, hg⟩ := h
  exact Kd.Q_types ho hb ht
theorem IsS75.own_neQ {w0 W : World} {g : Nat} {f0 : ByteArray} {f1 : Int} {α : Type} {d : Kd α} {e : Nat} {base : Nat} {ok : Nat → Prop} {v : Value} {xs : List α} (h : IsS75 w0 W g f0 f1) (ho : d.Q e W base ok v xs) (ht : e ≠ 75) : some g ≠ v.ownBlock := by
  obtain ⟨hb, hg⟩ := h
  exact Kd.Q_ne ho hb ht
theorem IsS75.apartS {w0 W : World} {g : Nat} {f0 : ByteArray} {f1 : Int} {α : Type} {d : Kd α} {e : Nat} {base : Nat} {ok : Nat → Prop} {v : Value} {xs : List α} (h : IsS75 w0 W g f0 f1) (ho : d.S e W base ok v xs) (ht : ∀ q, q ∈ e :: d.E → q ≠ 75) : d.S e W base (fun k => ok k ∧ k ≠ g) v xs := by
  obtain ⟨hb, hg⟩ := h
  exact Kd.S_types ho hb ht
theorem IsS75.own_neS {w0 W : World} {g : Nat} {f0 : ByteArray} {f1 : Int} {α : Type} {d : Kd α} {e : Nat} {base : Nat} {ok : Nat → Prop} {v : Value} {xs : List α} (h : IsS75 w0 W g f0 f1) (ho : d.S e W base ok v xs) (ht : e ≠ 75) : some g ≠ v.ownBlock := by
  obtain ⟨hb, hg⟩ := h
  exact Kd.S_ne ho hb ht
theorem IsS75.lt {w0 W : World} {g : Nat} {f0 : ByteArray} {f1 : Int} (h : IsS75 w0 W g f0 f1) : g < W.heap.size := by
  obtain ⟨hb, hg⟩ := h
  exact blk_lt hb
theorem IsS75.ge {w0 W : World} {g : Nat} {f0 : ByteArray} {f1 : Int} (h : IsS75 w0 W g f0 f1) : w0.heap.size ≤ g := by
  obtain ⟨hb, hg⟩ := h
  exact hg
theorem IsS75.ne_blk {w0 W : World} {g : Nat} {f0 : ByteArray} {f1 : Int} {a : Nat} {cs : Array Value} {t : TypeId} {fr : Nat × Nat} (h : IsS75 w0 W g f0 f1) (hb2 : W.heap[a]? = some (.cells cs t fr)) (ht : t ≠ 75) : g ≠ a := by
  obtain ⟨hb, hg⟩ := h
  rintro rfl
  rw [hb] at hb2
  injection hb2 with hb2
  injection hb2 with _ ht2
  exact ht ht2.symm
theorem IsS75.far {w0 W : World} {g : Nat} {f0 : ByteArray} {f1 : Int} {p : Addr} (h : IsS75 w0 W g f0 f1) (hne : g ≠ p.block) (u : Value) : IsS75 w0 (W.setCell p u) g f0 f1 := by
  obtain ⟨hb, hg⟩ := h
  exact ⟨blk_far hb hne u, hg⟩
theorem cellS75_0 {W : World} {g : Nat} {f0 : ByteArray} {f1 : Int} (h : W.heap[g]? = some (.cells #[.string f0, .int .i64 f1] 75 (0, 0))) : W.cell? ⟨g, 0, none⟩ = some (.string f0) := (blk_cell h 0).trans rfl
theorem IsS75.set_0 {w0 W : World} {g : Nat} {f0 : ByteArray} {f1 : Int} (h : IsS75 w0 W g f0 f1) (x : ByteArray) : IsS75 w0 (W.setCell ⟨g, 0, none⟩ (.string x)) g x f1 := by
  obtain ⟨hb, hg⟩ := h
  exact ⟨by simpa using blk_set hb 0 (.string x), hg⟩
theorem cellS75_1 {W : World} {g : Nat} {f0 : ByteArray} {f1 : Int} (h : W.heap[g]? = some (.cells #[.string f0, .int .i64 f1] 75 (0, 0))) : W.cell? ⟨g, 1, none⟩ = some (.int .i64 f1) := (blk_cell h 1).trans rfl
theorem IsS75.set_1 {w0 W : World} {g : Nat} {f0 : ByteArray} {f1 : Int} (h : IsS75 w0 W g f0 f1) (x : Int) : IsS75 w0 (W.setCell ⟨g, 1, none⟩ (.int .i64 x)) g f0 x := by
  obtain ⟨hb, hg⟩ := h
  exact ⟨by simpa using blk_set hb 1 (.int .i64 x), hg⟩
theorem IsS75.new (w0 W : World) (f0 : ByteArray) (f1 : Int) (hB : Below w0.heap.size w0 W) : IsS75 w0 (W.alloc (.cells #[.string f0, .int .i64 f1] 75)) W.heap.size f0 f1 := ⟨by simpa using heap_alloc_new W _, hB.size⟩

/-! ### octets_In_ready: function 39 -/
def octets_In_ready.f (s0_0 : ByteArray) (s0_1 : Int) : Option (Bool × ByteArray × Int) := some ((s0_1 == 0), s0_0, s0_1)
set_option maxHeartbeats 8000000 in
set_option maxRecDepth 100000 in
theorem octets_In_ready.calls (g : Nat) (s0_0 : ByteArray) (s0_1 : Int) (r1 : Bool) (r2 : ByteArray) (r3 : Int) (w0 w : World) (hI : IsS75 w0 w g s0_0 s0_1) (hB : Below w0.heap.size w0 w) (h : octets_In_ready.f s0_0 s0_1 = some (r1, r2, r3)) :
    Calls Try.prog 39 #[.pointer (some ⟨g, 0, none⟩)] w fun e w' => e = .returned (.bool r1) ∧ IsS75 w0 w' g r2 r3 ∧ Below w0.heap.size w0 w' ∧ KeepBut w w' g none := by
  have HI0 := Aside0.mk hI
  have HK := Aside0.mk (KeepBut.refl w g none)
  have HL := Aside0.mk hB.size
  clear hI
  have HW0 := Aside0.mk hB.size
  have HB := Aside0.mk hB
  clear hB
  have H : (some ((s0_1 == 0), s0_0, s0_1)) = some (r1, r2, r3) := h
  clear h
  simp only [Option.some.injEq, Prod.mk.injEq] at H
  obtain ⟨rfl, rfl, rfl⟩ := H
  obtain ⟨HGz2, hgz2⟩ := HI0.out
  have hcz2_0 := cellS75_0 HGz2
  have hcz2_1 := cellS75_1 HGz2
  have hfz2_0 := blk_frozen HGz2 0
  have hfz2_1 := blk_frozen HGz2 1
  clear HGz2 hgz2
  go_enter Try.func39, Try.ntmps39
  go_wp2
  go_ret
  exact ⟨by first | rfl | (simp [errW_none, errW_some] <;> rfl) | (simp [*, errW_none, errW_some] <;> rfl), by repeat (first | (with_reducible first | exact HI0.out | apply IsS75.alloc | apply IsS75.drewN | apply IsS75.drew | apply IsS75.set_0 | apply IsS75.set_1) | exact HI0.out), by repeat (first | (with_reducible first | exact HB.out | apply below_alloc | apply pw_below_drewN | apply below_drew1 | refine below_set ?_ (IsS75.ge HI0.out)) | exact HB.out), by repeat (first | (with_reducible first | exact HK.out | apply KeepBut.set_ | apply keep_drewN | apply keep_drew | apply keep_alloc) | exact HK.out)⟩

/-! ### octets_In_fail: function 40 -/
def octets_In_fail.f (s0_0 : ByteArray) (s0_1 : Int) (a1 : Int) : Option (ByteArray × Int) := if s0_1 = 0 then (some (s0_0, a1)) else (some (s0_0, s0_1))
set_option maxHeartbeats 8000000 in
set_option maxRecDepth 100000 in
theorem octets_In_fail.calls (g : Nat) (s0_0 : ByteArray) (s0_1 : Int) (a1 : Int) (r1 : ByteArray) (r2 : Int) (w0 w : World) (hI : IsS75 w0 w g s0_0 s0_1) (hB : Below w0.heap.size w0 w) (h : octets_In_fail.f s0_0 s0_1 a1 = some (r1, r2)) :
    Calls Try.prog 40 #[.pointer (some ⟨g, 0, none⟩), .int .i64 a1] w fun e w' => e = .returned (.tuple #[]) ∧ IsS75 w0 w' g r1 r2 ∧ Below w0.heap.size w0 w' ∧ KeepBut w w' g none := by
  have HI0 := Aside0.mk hI
  have HK := Aside0.mk (KeepBut.refl w g none)
  have HL := Aside0.mk hB.size
  clear hI
  have HW0 := Aside0.mk hB.size
  have HB := Aside0.mk hB
  clear hB
  have H : (if s0_1 = 0 then (some (s0_0, a1)) else (some (s0_0, s0_1))) = some (r1, r2) := h
  clear h
  by_cases c3 : s0_1 = 0
  · rw [if_pos c3] at H
    have c3b0 : (s0_1 == 0) = true := beq_iff_eq.mpr c3
    have c3b1 : (s0_1 != 0) = false := bne_eq_false_iff_eq.mpr c3
    clear c3
    simp only [Option.some.injEq, Prod.mk.injEq] at H
    obtain ⟨rfl, rfl⟩ := H
    obtain ⟨HGz4, hgz4⟩ := HI0.out
    have hcz4_0 := cellS75_0 HGz4
    have hcz4_1 := cellS75_1 HGz4
    have hfz4_0 := blk_frozen HGz4 0
    have hfz4_1 := blk_frozen HGz4 1
    clear HGz4 hgz4
    go_enter Try.func40, Try.ntmps40
    go_wp2
    first | go_end0 | ((try simp only [Exit.inBlock, Exit.then]); refine bodyPost_ret (results_none rfl _ _ _) rfl ?_)
    exact ⟨by first | rfl | (simp [errW_none, errW_some] <;> rfl) | (simp [*, errW_none, errW_some] <;> rfl), by repeat (first | (with_reducible first | exact HI0.out | apply IsS75.alloc | apply IsS75.drewN | apply IsS75.drew | apply IsS75.set_0 | apply IsS75.set_1) | exact HI0.out), by repeat (first | (with_reducible first | exact HB.out | apply below_alloc | apply pw_below_drewN | apply below_drew1 | refine below_set ?_ (IsS75.ge HI0.out)) | exact HB.out), by repeat (first | (with_reducible first | exact HK.out | apply KeepBut.set_ | apply keep_drewN | apply keep_drew | apply keep_alloc) | exact HK.out)⟩
  · rw [if_neg c3] at H
    have c3b0 : (s0_1 == 0) = false := beq_eq_false_iff_ne.mpr c3
    have c3b1 : (s0_1 != 0) = true := bne_iff_ne.mpr c3
    simp only [Option.some.injEq, Prod.mk.injEq] at H
    obtain ⟨rfl, rfl⟩ := H
    obtain ⟨HGz5, hgz5⟩ := HI0.out
    have hcz5_0 := cellS75_0 HGz5
    have hcz5_1 := cellS75_1 HGz5
    have hfz5_0 := blk_frozen HGz5 0
    have hfz5_1 := blk_frozen HGz5 1
    clear HGz5 hgz5
    go_enter Try.func40, Try.ntmps40
    go_wp2
    first | go_end0 | ((try simp only [Exit.inBlock, Exit.then]); refine bodyPost_ret (results_none rfl _ _ _) rfl ?_)
    exact ⟨by first | rfl | (simp [errW_none, errW_some] <;> rfl) | (simp [*, errW_none, errW_some] <;> rfl), by repeat (first | (with_reducible first | exact HI0.out | apply IsS75.alloc | apply IsS75.drewN | apply IsS75.drew | apply IsS75.set_0 | apply IsS75.set_1) | exact HI0.out), by repeat (first | (with_reducible first | exact HB.out | apply below_alloc | apply pw_below_drewN | apply below_drew1 | refine below_set ?_ (IsS75.ge HI0.out)) | exact HB.out), by repeat (first | (with_reducible first | exact HK.out | apply KeepBut.set_ | apply keep_drewN | apply keep_drew | apply keep_alloc) | exact HK.out)⟩

/-! ### octets_In_Int: function 17 -/
def octets_In_Int.f (s0_0 : ByteArray) (s0_1 : Int) : Option (Int × ByteArray × Int) := (octets_In_ready.f s0_0 s0_1).bind fun bt101 => (if bt101.1 = true then ((octets_Get.f bt101.2.1).bind fun bt104 => (if bt104.2.2 = 0 then (if 0 ≤ bt104.2.1 then (if bt104.2.1 ≤ (bt101.2.1.size : Int) then (some (bt104.1, bt101.2.1.extract (bt104.2.1 : Int).toNat bt101.2.1.size, bt101.2.2)) else (none)) else (none)) else ((octets_In_fail.f bt101.2.1 bt101.2.2 bt104.2.2).bind fun bt107 => (some (0, bt107.1, bt107.2))))) else (some (0, bt101.2.1, bt101.2.2)))
set_option maxHeartbeats 8000000 in
set_option maxRecDepth 100000 in
theorem octets_In_Int.calls (g : Nat) (s0_0 : ByteArray) (s0_1 : Int) (r1 : Int) (r2 : ByteArray) (r3 : Int) (w0 w : World) (hI : IsS75 w0 w g s0_0 s0_1) (hB : Below w0.heap.size w0 w) (h : octets_In_Int.f s0_0 s0_1 = some (r1, r2, r3)) :
    Calls Try.prog 17 #[.pointer (some ⟨g, 0, none⟩)] w fun e w' => e = .returned (.int .i64 r1) ∧ IsS75 w0 w' g r2 r3 ∧ Below w0.heap.size w0 w' ∧ KeepBut w w' g none := by
  have HI0 := Aside0.mk hI
  have HK := Aside0.mk (KeepBut.refl w g none)
  have HL := Aside0.mk hB.size
  clear hI
  have HW0 := Aside0.mk hB.size
  have HB := Aside0.mk hB
  clear hB
  have H : ((octets_In_ready.f s0_0 s0_1).bind fun bt101 => (if bt101.1 = true then ((octets_Get.f bt101.2.1).bind fun bt104 => (if bt104.2.2 = 0 then (if 0 ≤ bt104.2.1 then (if bt104.2.1 ≤ (bt101.2.1.size : Int) then (some (bt104.1, bt101.2.1.extract (bt104.2.1 : Int).toNat bt101.2.1.size, bt101.2.2)) else (none)) else (none)) else ((octets_In_fail.f bt101.2.1 bt101.2.2 bt104.2.2).bind fun bt107 => (some (0, bt107.1, bt107.2))))) else (some (0, bt101.2.1, bt101.2.2)))) = some (r1, r2, r3) := h
  clear h
  replace H := Option.bind_eq_some_iff.mp H
  obtain ⟨⟨t101, t102, t103⟩, A20, H⟩ := H
  replace H : (if t101 = true then ((octets_Get.f t102).bind fun bt104 => (if bt104.2.2 = 0 then (if 0 ≤ bt104.2.1 then (if bt104.2.1 ≤ (t102.size : Int) then (some (bt104.1, t102.extract (bt104.2.1 : Int).toNat t102.size, t103)) else (none)) else (none)) else ((octets_In_fail.f t102 t103 bt104.2.2).bind fun bt107 => (some (0, bt107.1, bt107.2))))) else (some (0, t102, t103))) = some (r1, r2, r3) := H
  have A2 := Aside0.mk A20
  clear A20
  by_cases c3 : t101 = true
  · subst c3
    have H1 : ((octets_Get.f t102).bind fun bt104 => (if bt104.2.2 = 0 then (if 0 ≤ bt104.2.1 then (if bt104.2.1 ≤ (t102.size : Int) then (some (bt104.1, t102.extract (bt104.2.1 : Int).toNat t102.size, t103)) else (none)) else (none)) else ((octets_In_fail.f t102 t103 bt104.2.2).bind fun bt107 => (some (0, bt107.1, bt107.2))))) = some (r1, r2, r3) := by rw [if_pos rfl] at H; exact H
    clear H
    have H := H1
    clear H1
    replace H := Option.bind_eq_some_iff.mp H
    obtain ⟨⟨t104, t105, t106⟩, A40, H⟩ := H
    replace H : (if t106 = 0 then (if 0 ≤ t105 then (if t105 ≤ (t102.size : Int) then (some (t104, t102.extract (t105 : Int).toNat t102.size, t103)) else (none)) else (none)) else ((octets_In_fail.f t102 t103 t106).bind fun bt107 => (some (0, bt107.1, bt107.2)))) = some (r1, r2, r3) := H
    have A4 := Aside0.mk A40
    clear A40
    by_cases c5 : t106 = 0
    · rw [if_pos c5] at H
      have c5b0 : (t106 == 0) = true := beq_iff_eq.mpr c5
      have c5b1 : (t106 != 0) = false := bne_eq_false_iff_eq.mpr c5
      clear c5
      by_cases c6 : 0 ≤ t105
      · rw [if_pos c6] at H
        have c6b0 := eq_true c6
        have c6b1 : decide (0 ≤ t105) = true := decide_eq_true c6
        clear c6
        by_cases c7 : t105 ≤ (t102.size : Int)
        · rw [if_pos c7] at H
          have c7b0 := eq_true c7
          have c7b1 : decide (t105 ≤ (t102.size : Int)) = true := decide_eq_true c7
          clear c7
          simp only [Option.some.injEq, Prod.mk.injEq] at H
          obtain ⟨rfl, rfl, rfl⟩ := H
          go_enter Try.func17, Try.ntmps17
          go_wp2_with (first | ((with_reducible refine gate_callee (f := 39) rfl ?_); refine goesL_ (some 7) rfl rfl Try.func39 (by kernel_rfl) rfl #[.pointer (some ⟨g, 0, none⟩)] rfl (by (try simp only [List.map_toArray, List.map_cons, List.map_nil]); first | done | rfl | (simp only [List.length_drop, List.length_take]; rfl)) ?_; (with_reducible refine (octets_In_ready.calls g s0_0 s0_1 true t102 t103 w0 _ ?side1 ?side2 A2.out).mono ?_); (case side1 => repeat (first | (with_reducible first | exact HI0.out | apply IsS75.alloc | apply IsS75.drewN | apply IsS75.drew | apply IsS75.set_0 | apply IsS75.set_1) | exact HI0.out)); (case side2 => repeat (first | (with_reducible first | exact HB.out | apply below_alloc | apply pw_below_drewN | apply below_drew1 | refine below_set ?_ (IsS75.ge HI0.out)) | exact HB.out)); rintro e w8 ⟨rfl, hi, hb, hk⟩; refine ⟨_, rfl, ?_⟩; have n0_ := Aside0.mk (KeepBut.trans (by repeat (first | (with_reducible first | exact HK.out | apply KeepBut.set_ | apply keep_drewN | apply keep_drew | apply keep_alloc) | exact HK.out)) hk (.inl rfl)); have n1_ := Aside0.mk (hb); have n2_ := Aside0.mk (hi); clear HK; clear HB; clear HI0; have HK := n0_; have HB := n1_; have HI0 := n2_; clear n0_ n1_ n2_; (try clear hb); (try clear hb2); (try clear hk); (try clear hi); obtain ⟨HGz9, hgz9⟩ := HI0.out; have hcz9_0 := cellS75_0 HGz9; have hcz9_1 := cellS75_1 HGz9; have hfz9_0 := blk_frozen HGz9 0; have hfz9_1 := blk_frozen HGz9 1; clear HGz9 hgz9) | ((with_reducible refine gate_callee (f := 12) rfl ?_); refine goesL_ (some 14) rfl rfl Try.func12 (by kernel_rfl) rfl #[.string t102] rfl (by (try simp only [List.map_toArray, List.map_cons, List.map_nil]); first | done | rfl | (simp only [List.length_drop, List.length_take]; rfl)) ?_; (with_reducible refine (octets_Get.calls t102 t104 t105 t106 _ A4.out).mono ?_); rintro e w' ⟨rfl, ⟨nd, rfl⟩⟩; refine ⟨_, rfl, ?_⟩; (try (rw [drewN_self w8]; generalize hq_ : World.drewN w8 _ = w8; have n0_ : Aside0 (IsS75 w0 w8 g t102 t103) := ⟨by rw [← hq_]; exact (by repeat (first | (with_reducible first | exact HI0.out | apply IsS75.alloc | apply IsS75.drewN | apply IsS75.drew | apply IsS75.set_0 | apply IsS75.set_1) | exact HI0.out))⟩; have n1_ : Aside0 (KeepBut w w8 g none) := ⟨by rw [← hq_]; exact (by repeat (first | (with_reducible first | exact HK.out | apply KeepBut.set_ | apply keep_drewN | apply keep_drew | apply keep_alloc) | exact HK.out))⟩; have n2_ : Aside0 (Below w0.heap.size w0 w8) := ⟨by rw [← hq_]; exact (by repeat (first | (with_reducible first | exact HB.out | apply below_alloc | apply pw_below_drewN | apply below_drew1 | refine below_set ?_ (IsS75.ge HI0.out)) | exact HB.out))⟩; (try replace hcz9_0 := cell_at hq_ hcz9_0); (try replace hfz9_0 := frozen_at hq_ hfz9_0); (try replace hcz9_1 := cell_at hq_ hcz9_1); (try replace hfz9_1 := frozen_at hq_ hfz9_1); clear HI0 HK HB hq_; have HI0 := n0_; have HK := n1_; have HB := n2_; clear n0_ n1_ n2_))))
          go_ret
          exact ⟨by first | rfl | (simp [errW_none, errW_some] <;> rfl) | (simp [*, errW_none, errW_some] <;> rfl), by repeat (first | (with_reducible first | exact HI0.out | apply IsS75.alloc | apply IsS75.drewN | apply IsS75.drew | apply IsS75.set_0 | apply IsS75.set_1) | exact HI0.out), by repeat (first | (with_reducible first | exact HB.out | apply below_alloc | apply pw_below_drewN | apply below_drew1 | refine below_set ?_ (IsS75.ge HI0.out)) | exact HB.out), by repeat (first | (with_reducible first | exact HK.out | apply KeepBut.set_ | apply keep_drewN | apply keep_drew | apply keep_alloc) | exact HK.out)⟩
        · rw [if_neg c7] at H
          exact absurd H (by simp)
      · rw [if_neg c6] at H
        exact absurd H (by simp)
    · rw [if_neg c5] at H
      have c5b0 : (t106 == 0) = false := beq_eq_false_iff_ne.mpr c5
      have c5b1 : (t106 != 0) = true := bne_iff_ne.mpr c5
      replace H := Option.bind_eq_some_iff.mp H
      obtain ⟨⟨t107, t108⟩, A100, H⟩ := H
      replace H : (some (0, t107, t108)) = some (r1, r2, r3) := H
      have A10 := Aside0.mk A100
      clear A100
      simp only [Option.some.injEq, Prod.mk.injEq] at H
      obtain ⟨rfl, rfl, rfl⟩ := H
      go_enter Try.func17, Try.ntmps17
      go_wp2_with (first | ((with_reducible refine gate_callee (f := 39) rfl ?_); refine goesL_ (some 7) rfl rfl Try.func39 (by kernel_rfl) rfl #[.pointer (some ⟨g, 0, none⟩)] rfl (by (try simp only [List.map_toArray, List.map_cons, List.map_nil]); first | done | rfl | (simp only [List.length_drop, List.length_take]; rfl)) ?_; (with_reducible refine (octets_In_ready.calls g s0_0 s0_1 true t102 t103 w0 _ ?side1 ?side2 A2.out).mono ?_); (case side1 => repeat (first | (with_reducible first | exact HI0.out | apply IsS75.alloc | apply IsS75.drewN | apply IsS75.drew | apply IsS75.set_0 | apply IsS75.set_1) | exact HI0.out)); (case side2 => repeat (first | (with_reducible first | exact HB.out | apply below_alloc | apply pw_below_drewN | apply below_drew1 | refine below_set ?_ (IsS75.ge HI0.out)) | exact HB.out)); rintro e w11 ⟨rfl, hi, hb, hk⟩; refine ⟨_, rfl, ?_⟩; have n0_ := Aside0.mk (KeepBut.trans (by repeat (first | (with_reducible first | exact HK.out | apply KeepBut.set_ | apply keep_drewN | apply keep_drew | apply keep_alloc) | exact HK.out)) hk (.inl rfl)); have n1_ := Aside0.mk (hb); have n2_ := Aside0.mk (hi); clear HK; clear HB; clear HI0; have HK := n0_; have HB := n1_; have HI0 := n2_; clear n0_ n1_ n2_; (try clear hb); (try clear hb2); (try clear hk); (try clear hi); obtain ⟨HGz12, hgz12⟩ := HI0.out; have hcz12_0 := cellS75_0 HGz12; have hcz12_1 := cellS75_1 HGz12; have hfz12_0 := blk_frozen HGz12 0; have hfz12_1 := blk_frozen HGz12 1; clear HGz12 hgz12) | ((with_reducible refine gate_callee (f := 12) rfl ?_); refine goesL_ (some 14) rfl rfl Try.func12 (by kernel_rfl) rfl #[.string t102] rfl (by (try simp only [List.map_toArray, List.map_cons, List.map_nil]); first | done | rfl | (simp only [List.length_drop, List.length_take]; rfl)) ?_; (with_reducible refine (octets_Get.calls t102 t104 t105 t106 _ A4.out).mono ?_); rintro e w' ⟨rfl, ⟨nd, rfl⟩⟩; refine ⟨_, rfl, ?_⟩) | ((with_reducible refine gate_callee (f := 40) rfl ?_); refine goesL_ (some 22) rfl rfl Try.func40 (by kernel_rfl) rfl #[.pointer (some ⟨g, 0, none⟩), .int .i64 t106] rfl (by (try simp only [List.map_toArray, List.map_cons, List.map_nil]); first | done | rfl | (simp only [List.length_drop, List.length_take]; rfl)) ?_; (with_reducible refine (octets_In_fail.calls g t102 t103 t106 t107 t108 w0 _ ?side1 ?side2 A10.out).mono ?_); (case side1 => repeat (first | (with_reducible first | exact HI0.out | apply IsS75.alloc | apply IsS75.drewN | apply IsS75.drew | apply IsS75.set_0 | apply IsS75.set_1) | exact HI0.out)); (case side2 => repeat (first | (with_reducible first | exact HB.out | apply below_alloc | apply pw_below_drewN | apply below_drew1 | refine below_set ?_ (IsS75.ge HI0.out)) | exact HB.out)); rintro e w13 ⟨rfl, hi, hb, hk⟩; refine ⟨_, rfl, ?_⟩; have n0_ := Aside0.mk (KeepBut.trans (by repeat (first | (with_reducible first | exact HK.out | apply KeepBut.set_ | apply keep_drewN | apply keep_drew | apply keep_alloc) | exact HK.out)) hk (.inl rfl)); have n1_ := Aside0.mk (hb); have n2_ := Aside0.mk (hi); clear HK; clear HB; clear HI0; have HK := n0_; have HB := n1_; have HI0 := n2_; clear n0_ n1_ n2_; (try clear hb); (try clear hb2); (try clear hk); (try clear hi)))
      go_ret
      exact ⟨by first | rfl | (simp [errW_none, errW_some] <;> rfl) | (simp [*, errW_none, errW_some] <;> rfl), by repeat (first | (with_reducible first | exact HI0.out | apply IsS75.alloc | apply IsS75.drewN | apply IsS75.drew | apply IsS75.set_0 | apply IsS75.set_1) | exact HI0.out), by repeat (first | (with_reducible first | exact HB.out | apply below_alloc | apply pw_below_drewN | apply below_drew1 | refine below_set ?_ (IsS75.ge HI0.out)) | exact HB.out), by repeat (first | (with_reducible first | exact HK.out | apply KeepBut.set_ | apply keep_drewN | apply keep_drew | apply keep_alloc) | exact HK.out)⟩
  · replace c3 := Bool.eq_false_iff.mpr c3
    subst c3
    have H1 : (some (0, t102, t103)) = some (r1, r2, r3) := by rw [if_neg (show ¬ (false = true) by decide)] at H; exact H
    clear H
    have H := H1
    clear H1
    simp only [Option.some.injEq, Prod.mk.injEq] at H
    obtain ⟨rfl, rfl, rfl⟩ := H
    go_enter Try.func17, Try.ntmps17
    go_wp2_with (first | ((with_reducible refine gate_callee (f := 39) rfl ?_); refine goesL_ (some 7) rfl rfl Try.func39 (by kernel_rfl) rfl #[.pointer (some ⟨g, 0, none⟩)] rfl (by (try simp only [List.map_toArray, List.map_cons, List.map_nil]); first | done | rfl | (simp only [List.length_drop, List.length_take]; rfl)) ?_; (with_reducible refine (octets_In_ready.calls g s0_0 s0_1 false t102 t103 w0 _ ?side1 ?side2 A2.out).mono ?_); (case side1 => repeat (first | (with_reducible first | exact HI0.out | apply IsS75.alloc | apply IsS75.drewN | apply IsS75.drew | apply IsS75.set_0 | apply IsS75.set_1) | exact HI0.out)); (case side2 => repeat (first | (with_reducible first | exact HB.out | apply below_alloc | apply pw_below_drewN | apply below_drew1 | refine below_set ?_ (IsS75.ge HI0.out)) | exact HB.out)); rintro e w14 ⟨rfl, hi, hb, hk⟩; refine ⟨_, rfl, ?_⟩; have n0_ := Aside0.mk (KeepBut.trans (by repeat (first | (with_reducible first | exact HK.out | apply KeepBut.set_ | apply keep_drewN | apply keep_drew | apply keep_alloc) | exact HK.out)) hk (.inl rfl)); have n1_ := Aside0.mk (hb); have n2_ := Aside0.mk (hi); clear HK; clear HB; clear HI0; have HK := n0_; have HB := n1_; have HI0 := n2_; clear n0_ n1_ n2_; (try clear hb); (try clear hb2); (try clear hk); (try clear hi)))
    go_ret
    exact ⟨by first | rfl | (simp [errW_none, errW_some] <;> rfl) | (simp [*, errW_none, errW_some] <;> rfl), by repeat (first | (with_reducible first | exact HI0.out | apply IsS75.alloc | apply IsS75.drewN | apply IsS75.drew | apply IsS75.set_0 | apply IsS75.set_1) | exact HI0.out), by repeat (first | (with_reducible first | exact HB.out | apply below_alloc | apply pw_below_drewN | apply below_drew1 | refine below_set ?_ (IsS75.ge HI0.out)) | exact HB.out), by repeat (first | (with_reducible first | exact HK.out | apply KeepBut.set_ | apply keep_drewN | apply keep_drew | apply keep_alloc) | exact HK.out)⟩

/-! ### octets_In_Bool: function 20 -/
def octets_In_Bool.f (s0_0 : ByteArray) (s0_1 : Int) : Option (Bool × ByteArray × Int) := (octets_In_ready.f s0_0 s0_1).bind fun bt109 => (if bt109.1 = true then (if bt109.2.1.toList = ([] : List UInt8) then ((octets_In_fail.f bt109.2.1 bt109.2.2 3).bind fun bt112 => (some (false, bt112.1, bt112.2))) else (if 0 < (bt109.2.1.size : Int) then (if (bt bt109.2.1 0) > 1 then ((octets_In_fail.f bt109.2.1 bt109.2.2 2).bind fun bt114 => (some (false, bt114.1, bt114.2))) else (if 1 ≤ (bt109.2.1.size : Int) then (some (((bt bt109.2.1 0) == 1), bt109.2.1.extract 1 bt109.2.1.size, bt109.2.2)) else (none))) else (none))) else (some (false, bt109.2.1, bt109.2.2)))
set_option maxHeartbeats 8000000 in
set_option maxRecDepth 100000 in
theorem octets_In_Bool.calls (g : Nat) (s0_0 : ByteArray) (s0_1 : Int) (r1 : Bool) (r2 : ByteArray) (r3 : Int) (w0 w : World) (hI : IsS75 w0 w g s0_0 s0_1) (hB : Below w0.heap.size w0 w) (h : octets_In_Bool.f s0_0 s0_1 = some (r1, r2, r3)) :
    Calls Try.prog 20 #[.pointer (some ⟨g, 0, none⟩)] w fun e w' => e = .returned (.bool r1) ∧ IsS75 w0 w' g r2 r3 ∧ Below w0.heap.size w0 w' ∧ KeepBut w w' g none := by
  have HI0 := Aside0.mk hI
  have HK := Aside0.mk (KeepBut.refl w g none)
  have HL := Aside0.mk hB.size
  clear hI
  have HW0 := Aside0.mk hB.size
  have HB := Aside0.mk hB
  clear hB
  have H : ((octets_In_ready.f s0_0 s0_1).bind fun bt109 => (if bt109.1 = true then (if bt109.2.1.toList = ([] : List UInt8) then ((octets_In_fail.f bt109.2.1 bt109.2.2 3).bind fun bt112 => (some (false, bt112.1, bt112.2))) else (if 0 < (bt109.2.1.size : Int) then (if (bt bt109.2.1 0) > 1 then ((octets_In_fail.f bt109.2.1 bt109.2.2 2).bind fun bt114 => (some (false, bt114.1, bt114.2))) else (if 1 ≤ (bt109.2.1.size : Int) then (some (((bt bt109.2.1 0) == 1), bt109.2.1.extract 1 bt109.2.1.size, bt109.2.2)) else (none))) else (none))) else (some (false, bt109.2.1, bt109.2.2)))) = some (r1, r2, r3) := h
  clear h
  replace H := Option.bind_eq_some_iff.mp H
  obtain ⟨⟨t109, t110, t111⟩, A20, H⟩ := H
  replace H : (if t109 = true then (if t110.toList = ([] : List UInt8) then ((octets_In_fail.f t110 t111 3).bind fun bt112 => (some (false, bt112.1, bt112.2))) else (if 0 < (t110.size : Int) then (if (bt t110 0) > 1 then ((octets_In_fail.f t110 t111 2).bind fun bt114 => (some (false, bt114.1, bt114.2))) else (if 1 ≤ (t110.size : Int) then (some (((bt t110 0) == 1), t110.extract 1 t110.size, t111)) else (none))) else (none))) else (some (false, t110, t111))) = some (r1, r2, r3) := H
  have A2 := Aside0.mk A20
  clear A20
  by_cases c3 : t109 = true
  · subst c3
    have H1 : (if t110.toList = ([] : List UInt8) then ((octets_In_fail.f t110 t111 3).bind fun bt112 => (some (false, bt112.1, bt112.2))) else (if 0 < (t110.size : Int) then (if (bt t110 0) > 1 then ((octets_In_fail.f t110 t111 2).bind fun bt114 => (some (false, bt114.1, bt114.2))) else (if 1 ≤ (t110.size : Int) then (some (((bt t110 0) == 1), t110.extract 1 t110.size, t111)) else (none))) else (none))) = some (r1, r2, r3) := by rw [if_pos rfl] at H; exact H
    clear H
    have H := H1
    clear H1
    by_cases c4 : t110.toList = ([] : List UInt8)
    · rw [if_pos c4] at H
      have c4b0 : (t110.toList == ([] : List UInt8)) = true := beq_iff_eq.mpr c4
      have c4b1 : (t110.toList != ([] : List UInt8)) = false := bne_eq_false_iff_eq.mpr c4
      clear c4
      replace H := Option.bind_eq_some_iff.mp H
      obtain ⟨⟨t112, t113⟩, A50, H⟩ := H
      replace H : (some (false, t112, t113)) = some (r1, r2, r3) := H
      have A5 := Aside0.mk A50
      clear A50
      simp only [Option.some.injEq, Prod.mk.injEq] at H
      obtain ⟨rfl, rfl, rfl⟩ := H
      go_enter Try.func20, Try.ntmps20
      go_wp2_with (first | ((with_reducible refine gate_callee (f := 39) rfl ?_); refine goesL_ (some 5) rfl rfl Try.func39 (by kernel_rfl) rfl #[.pointer (some ⟨g, 0, none⟩)] rfl (by (try simp only [List.map_toArray, List.map_cons, List.map_nil]); first | done | rfl | (simp only [List.length_drop, List.length_take]; rfl)) ?_; (with_reducible refine (octets_In_ready.calls g s0_0 s0_1 true t110 t111 w0 _ ?side1 ?side2 A2.out).mono ?_); (case side1 => repeat (first | (with_reducible first | exact HI0.out | apply IsS75.alloc | apply IsS75.drewN | apply IsS75.drew | apply IsS75.set_0 | apply IsS75.set_1) | exact HI0.out)); (case side2 => repeat (first | (with_reducible first | exact HB.out | apply below_alloc | apply pw_below_drewN | apply below_drew1 | refine below_set ?_ (IsS75.ge HI0.out)) | exact HB.out)); rintro e w6 ⟨rfl, hi, hb, hk⟩; refine ⟨_, rfl, ?_⟩; have n0_ := Aside0.mk (KeepBut.trans (by repeat (first | (with_reducible first | exact HK.out | apply KeepBut.set_ | apply keep_drewN | apply keep_drew | apply keep_alloc) | exact HK.out)) hk (.inl rfl)); have n1_ := Aside0.mk (hb); have n2_ := Aside0.mk (hi); clear HK; clear HB; clear HI0; have HK := n0_; have HB := n1_; have HI0 := n2_; clear n0_ n1_ n2_; (try clear hb); (try clear hb2); (try clear hk); (try clear hi); obtain ⟨HGz7, hgz7⟩ := HI0.out; have hcz7_0 := cellS75_0 HGz7; have hcz7_1 := cellS75_1 HGz7; have hfz7_0 := blk_frozen HGz7 0; have hfz7_1 := blk_frozen HGz7 1; clear HGz7 hgz7) | ((with_reducible refine gate_callee (f := 40) rfl ?_); refine goesL_ (some 14) rfl rfl Try.func40 (by kernel_rfl) rfl #[.pointer (some ⟨g, 0, none⟩), .int .i64 3] rfl (by (try simp only [List.map_toArray, List.map_cons, List.map_nil]); first | done | rfl | (simp only [List.length_drop, List.length_take]; rfl)) ?_; (with_reducible refine (octets_In_fail.calls g t110 t111 3 t112 t113 w0 _ ?side1 ?side2 A5.out).mono ?_); (case side1 => repeat (first | (with_reducible first | exact HI0.out | apply IsS75.alloc | apply IsS75.drewN | apply IsS75.drew | apply IsS75.set_0 | apply IsS75.set_1) | exact HI0.out)); (case side2 => repeat (first | (with_reducible first | exact HB.out | apply below_alloc | apply pw_below_drewN | apply below_drew1 | refine below_set ?_ (IsS75.ge HI0.out)) | exact HB.out)); rintro e w8 ⟨rfl, hi, hb, hk⟩; refine ⟨_, rfl, ?_⟩; have n0_ := Aside0.mk (KeepBut.trans (by repeat (first | (with_reducible first | exact HK.out | apply KeepBut.set_ | apply keep_drewN | apply keep_drew | apply keep_alloc) | exact HK.out)) hk (.inl rfl)); have n1_ := Aside0.mk (hb); have n2_ := Aside0.mk (hi); clear HK; clear HB; clear HI0; have HK := n0_; have HB := n1_; have HI0 := n2_; clear n0_ n1_ n2_; (try clear hb); (try clear hb2); (try clear hk); (try clear hi)))
      go_ret
      exact ⟨by first | rfl | (simp [errW_none, errW_some] <;> rfl) | (simp [*, errW_none, errW_some] <;> rfl), by repeat (first | (with_reducible first | exact HI0.out | apply IsS75.alloc | apply IsS75.drewN | apply IsS75.drew | apply IsS75.set_0 | apply IsS75.set_1) | exact HI0.out), by repeat (first | (with_reducible first | exact HB.out | apply below_alloc | apply pw_below_drewN | apply below_drew1 | refine below_set ?_ (IsS75.ge HI0.out)) | exact HB.out), by repeat (first | (with_reducible first | exact HK.out | apply KeepBut.set_ | apply keep_drewN | apply keep_drew | apply keep_alloc) | exact HK.out)⟩
    · rw [if_neg c4] at H
      have c4b0 : (t110.toList == ([] : List UInt8)) = false := beq_eq_false_iff_ne.mpr c4
      have c4b1 : (t110.toList != ([] : List UInt8)) = true := bne_iff_ne.mpr c4
      by_cases c9 : 0 < (t110.size : Int)
      · rw [if_pos c9] at H
        have c9b0 : decide (0 < (t110.size : Int)) = true := decide_eq_true c9
        have c9b1 : decide (0 < t110.size) = true := decide_eq_true (by omega)
        clear c9
        by_cases c11 : (bt t110 0) > 1
        · rw [if_pos c11] at H
          have c11b0 : decide (1 < (bt t110 0)) = true := decide_eq_true c11
          clear c11
          replace H := Option.bind_eq_some_iff.mp H
          obtain ⟨⟨t114, t115⟩, A120, H⟩ := H
          replace H : (some (false, t114, t115)) = some (r1, r2, r3) := H
          have A12 := Aside0.mk A120
          clear A120
          simp only [Option.some.injEq, Prod.mk.injEq] at H
          obtain ⟨rfl, rfl, rfl⟩ := H
          go_enter Try.func20, Try.ntmps20
          go_wp2_with (first | ((with_reducible refine gate_callee (f := 39) rfl ?_); refine goesL_ (some 5) rfl rfl Try.func39 (by kernel_rfl) rfl #[.pointer (some ⟨g, 0, none⟩)] rfl (by (try simp only [List.map_toArray, List.map_cons, List.map_nil]); first | done | rfl | (simp only [List.length_drop, List.length_take]; rfl)) ?_; (with_reducible refine (octets_In_ready.calls g s0_0 s0_1 true t110 t111 w0 _ ?side1 ?side2 A2.out).mono ?_); (case side1 => repeat (first | (with_reducible first | exact HI0.out | apply IsS75.alloc | apply IsS75.drewN | apply IsS75.drew | apply IsS75.set_0 | apply IsS75.set_1) | exact HI0.out)); (case side2 => repeat (first | (with_reducible first | exact HB.out | apply below_alloc | apply pw_below_drewN | apply below_drew1 | refine below_set ?_ (IsS75.ge HI0.out)) | exact HB.out)); rintro e w13 ⟨rfl, hi, hb, hk⟩; refine ⟨_, rfl, ?_⟩; have n0_ := Aside0.mk (KeepBut.trans (by repeat (first | (with_reducible first | exact HK.out | apply KeepBut.set_ | apply keep_drewN | apply keep_drew | apply keep_alloc) | exact HK.out)) hk (.inl rfl)); have n1_ := Aside0.mk (hb); have n2_ := Aside0.mk (hi); clear HK; clear HB; clear HI0; have HK := n0_; have HB := n1_; have HI0 := n2_; clear n0_ n1_ n2_; (try clear hb); (try clear hb2); (try clear hk); (try clear hi); obtain ⟨HGz14, hgz14⟩ := HI0.out; have hcz14_0 := cellS75_0 HGz14; have hcz14_1 := cellS75_1 HGz14; have hfz14_0 := blk_frozen HGz14 0; have hfz14_1 := blk_frozen HGz14 1; clear HGz14 hgz14; have p10 : 0 ≤ (0 : Int) := (by omega); have q10 : 0 < t110.size := (by have : (0 : Int) < (t110.size : Int) := of_decide_eq_true (by first | (with_reducible assumption) | assumption); omega); have hx10 : ∀ h : 0 < t110.size, ((t110[0]'h).toNat : Int) = bt t110 0 := bt_at t110 0; clear p10; have qi10 : (0 < (t110.size : Int)) = True := eq_true (of_decide_eq_true (by first | (with_reducible assumption) | assumption)); replace q10 := eq_true q10) | ((with_reducible refine gate_callee (f := 40) rfl ?_); refine goesL_ (some 23) rfl rfl Try.func40 (by kernel_rfl) rfl #[.pointer (some ⟨g, 0, none⟩), .int .i64 2] rfl (by (try simp only [List.map_toArray, List.map_cons, List.map_nil]); first | done | rfl | (simp only [List.length_drop, List.length_take]; rfl)) ?_; (with_reducible refine (octets_In_fail.calls g t110 t111 2 t114 t115 w0 _ ?side1 ?side2 A12.out).mono ?_); (case side1 => repeat (first | (with_reducible first | exact HI0.out | apply IsS75.alloc | apply IsS75.drewN | apply IsS75.drew | apply IsS75.set_0 | apply IsS75.set_1) | exact HI0.out)); (case side2 => repeat (first | (with_reducible first | exact HB.out | apply below_alloc | apply pw_below_drewN | apply below_drew1 | refine below_set ?_ (IsS75.ge HI0.out)) | exact HB.out)); rintro e w15 ⟨rfl, hi, hb, hk⟩; refine ⟨_, rfl, ?_⟩; have n0_ := Aside0.mk (KeepBut.trans (by repeat (first | (with_reducible first | exact HK.out | apply KeepBut.set_ | apply keep_drewN | apply keep_drew | apply keep_alloc) | exact HK.out)) hk (.inl rfl)); have n1_ := Aside0.mk (hb); have n2_ := Aside0.mk (hi); clear HK; clear HB; clear HI0; have HK := n0_; have HB := n1_; have HI0 := n2_; clear n0_ n1_ n2_; (try clear hb); (try clear hb2); (try clear hk); (try clear hi)))
          go_ret
          exact ⟨by first | rfl | (simp [errW_none, errW_some] <;> rfl) | (simp [*, errW_none, errW_some] <;> rfl), by repeat (first | (with_reducible first | exact HI0.out | apply IsS75.alloc | apply IsS75.drewN | apply IsS75.drew | apply IsS75.set_0 | apply IsS75.set_1) | exact HI0.out), by repeat (first | (with_reducible first | exact HB.out | apply below_alloc | apply pw_below_drewN | apply below_drew1 | refine below_set ?_ (IsS75.ge HI0.out)) | exact HB.out), by repeat (first | (with_reducible first | exact HK.out | apply KeepBut.set_ | apply keep_drewN | apply keep_drew | apply keep_alloc) | exact HK.out)⟩
        · rw [if_neg c11] at H
          have c11b0 : decide (1 < (bt t110 0)) = false := decide_eq_false c11
          clear c11
          by_cases c17 : 1 ≤ (t110.size : Int)
          · rw [if_pos c17] at H
            have c17b0 := eq_true c17
            have c17b1 : decide (1 ≤ (t110.size : Int)) = true := decide_eq_true c17
            clear c17
            simp only [Option.some.injEq, Prod.mk.injEq] at H
            obtain ⟨rfl, rfl, rfl⟩ := H
            go_enter Try.func20, Try.ntmps20
            go_wp2_with (first | ((with_reducible refine gate_callee (f := 39) rfl ?_); refine goesL_ (some 5) rfl rfl Try.func39 (by kernel_rfl) rfl #[.pointer (some ⟨g, 0, none⟩)] rfl (by (try simp only [List.map_toArray, List.map_cons, List.map_nil]); first | done | rfl | (simp only [List.length_drop, List.length_take]; rfl)) ?_; (with_reducible refine (octets_In_ready.calls g s0_0 s0_1 true t110 t111 w0 _ ?side1 ?side2 A2.out).mono ?_); (case side1 => repeat (first | (with_reducible first | exact HI0.out | apply IsS75.alloc | apply IsS75.drewN | apply IsS75.drew | apply IsS75.set_0 | apply IsS75.set_1) | exact HI0.out)); (case side2 => repeat (first | (with_reducible first | exact HB.out | apply below_alloc | apply pw_below_drewN | apply below_drew1 | refine below_set ?_ (IsS75.ge HI0.out)) | exact HB.out)); rintro e w18 ⟨rfl, hi, hb, hk⟩; refine ⟨_, rfl, ?_⟩; have n0_ := Aside0.mk (KeepBut.trans (by repeat (first | (with_reducible first | exact HK.out | apply KeepBut.set_ | apply keep_drewN | apply keep_drew | apply keep_alloc) | exact HK.out)) hk (.inl rfl)); have n1_ := Aside0.mk (hb); have n2_ := Aside0.mk (hi); clear HK; clear HB; clear HI0; have HK := n0_; have HB := n1_; have HI0 := n2_; clear n0_ n1_ n2_; (try clear hb); (try clear hb2); (try clear hk); (try clear hi); obtain ⟨HGz19, hgz19⟩ := HI0.out; have hcz19_0 := cellS75_0 HGz19; have hcz19_1 := cellS75_1 HGz19; have hfz19_0 := blk_frozen HGz19 0; have hfz19_1 := blk_frozen HGz19 1; clear HGz19 hgz19; have p10 : 0 ≤ (0 : Int) := (by omega); have q10 : 0 < t110.size := (by have : (0 : Int) < (t110.size : Int) := of_decide_eq_true (by first | (with_reducible assumption) | assumption); omega); have hx10 : ∀ h : 0 < t110.size, ((t110[0]'h).toNat : Int) = bt t110 0 := bt_at t110 0; clear p10; have qi10 : (0 < (t110.size : Int)) = True := eq_true (of_decide_eq_true (by first | (with_reducible assumption) | assumption)); replace q10 := eq_true q10; have p16 : 0 ≤ (0 : Int) := (by omega); have q16 : 0 < t110.size := (by have : (0 : Int) < (t110.size : Int) := of_decide_eq_true (by first | (with_reducible assumption) | assumption); omega); have hx16 : ∀ h : 0 < t110.size, ((t110[0]'h).toNat : Int) = bt t110 0 := bt_at t110 0; clear p16; have qi16 : (0 < (t110.size : Int)) = True := eq_true (of_decide_eq_true (by first | (with_reducible assumption) | assumption)); replace q16 := eq_true q16))
            go_ret
            exact ⟨by first | rfl | (simp [errW_none, errW_some] <;> rfl) | (simp [*, errW_none, errW_some] <;> rfl), by repeat (first | (with_reducible first | exact HI0.out | apply IsS75.alloc | apply IsS75.drewN | apply IsS75.drew | apply IsS75.set_0 | apply IsS75.set_1) | exact HI0.out), by repeat (first | (with_reducible first | exact HB.out | apply below_alloc | apply pw_below_drewN | apply below_drew1 | refine below_set ?_ (IsS75.ge HI0.out)) | exact HB.out), by repeat (first | (with_reducible first | exact HK.out | apply KeepBut.set_ | apply keep_drewN | apply keep_drew | apply keep_alloc) | exact HK.out)⟩
          · rw [if_neg c17] at H
            exact absurd H (by simp)
      · rw [if_neg c9] at H
        exact absurd H (by simp)
  · replace c3 := Bool.eq_false_iff.mpr c3
    subst c3
    have H1 : (some (false, t110, t111)) = some (r1, r2, r3) := by rw [if_neg (show ¬ (false = true) by decide)] at H; exact H
    clear H
    have H := H1
    clear H1
    simp only [Option.some.injEq, Prod.mk.injEq] at H
    obtain ⟨rfl, rfl, rfl⟩ := H
    go_enter Try.func20, Try.ntmps20
    go_wp2_with (first | ((with_reducible refine gate_callee (f := 39) rfl ?_); refine goesL_ (some 5) rfl rfl Try.func39 (by kernel_rfl) rfl #[.pointer (some ⟨g, 0, none⟩)] rfl (by (try simp only [List.map_toArray, List.map_cons, List.map_nil]); first | done | rfl | (simp only [List.length_drop, List.length_take]; rfl)) ?_; (with_reducible refine (octets_In_ready.calls g s0_0 s0_1 false t110 t111 w0 _ ?side1 ?side2 A2.out).mono ?_); (case side1 => repeat (first | (with_reducible first | exact HI0.out | apply IsS75.alloc | apply IsS75.drewN | apply IsS75.drew | apply IsS75.set_0 | apply IsS75.set_1) | exact HI0.out)); (case side2 => repeat (first | (with_reducible first | exact HB.out | apply below_alloc | apply pw_below_drewN | apply below_drew1 | refine below_set ?_ (IsS75.ge HI0.out)) | exact HB.out)); rintro e w20 ⟨rfl, hi, hb, hk⟩; refine ⟨_, rfl, ?_⟩; have n0_ := Aside0.mk (KeepBut.trans (by repeat (first | (with_reducible first | exact HK.out | apply KeepBut.set_ | apply keep_drewN | apply keep_drew | apply keep_alloc) | exact HK.out)) hk (.inl rfl)); have n1_ := Aside0.mk (hb); have n2_ := Aside0.mk (hi); clear HK; clear HB; clear HI0; have HK := n0_; have HB := n1_; have HI0 := n2_; clear n0_ n1_ n2_; (try clear hb); (try clear hb2); (try clear hk); (try clear hi)))
    go_ret
    exact ⟨by first | rfl | (simp [errW_none, errW_some] <;> rfl) | (simp [*, errW_none, errW_some] <;> rfl), by repeat (first | (with_reducible first | exact HI0.out | apply IsS75.alloc | apply IsS75.drewN | apply IsS75.drew | apply IsS75.set_0 | apply IsS75.set_1) | exact HI0.out), by repeat (first | (with_reducible first | exact HB.out | apply below_alloc | apply pw_below_drewN | apply below_drew1 | refine below_set ?_ (IsS75.ge HI0.out)) | exact HB.out), by repeat (first | (with_reducible first | exact HK.out | apply KeepBut.set_ | apply keep_drewN | apply keep_drew | apply keep_alloc) | exact HK.out)⟩

/-! ### octets_In_size: function 41 -/
def octets_In_size.j0 : Nat → Int → Bool → ByteArray → Int → Option (Int × ByteArray × Int)
  | 0, _, _, _, _ => none
  | k + 1, x5, x13, x1000, x1001 => if x13 = true then ((octets_In_fail.f x1000 x1001 6).bind fun bt124 => ((octets_In_ready.f bt124.1 bt124.2).bind fun bt126 => (if bt126.1 = true then (some (x5, bt126.2.1, bt126.2.2)) else (some (0, bt126.2.1, bt126.2.2))))) else ((octets_In_ready.f x1000 x1001).bind fun bt129 => (if bt129.1 = true then (some (x5, bt129.2.1, bt129.2.2)) else (some (0, bt129.2.1, bt129.2.2))))
def octets_In_size.f (k : Nat) (s0_0 : ByteArray) (s0_1 : Int) (a1 : Int) : Option (Int × ByteArray × Int) := (octets_In_Int.f s0_0 s0_1).bind fun bt116 => (if bt116.1 < 0 then ((octets_In_fail.f bt116.2.1 bt116.2.2 2).bind fun bt119 => ((octets_In_ready.f bt119.1 bt119.2).bind fun bt121 => (if bt121.1 = true then (some (bt116.1, bt121.2.1, bt121.2.2)) else (some (0, bt121.2.1, bt121.2.2))))) else (if bt116.1 > a1 then (octets_In_size.j0 k bt116.1 true bt116.2.1 bt116.2.2) else (octets_In_size.j0 k bt116.1 (decide (bt116.1 > 65536)) bt116.2.1 bt116.2.2)))
theorem octets_In_size.mono_l : ∀ k, (∀ y0 y1 y2 y3, LeO (octets_In_size.j0 k y0 y1 y2 y3) (octets_In_size.j0 (k + 1) y0 y1 y2 y3))
  | 0 => fun _ _ _ _ r h => by simp [octets_In_size.j0] at h
  | k + 1 => by
    have ih0 := octets_In_size.mono_l k
    · intro y0 y1 y2 y3
      unfold octets_In_size.j0
      repeat' first
      | (with_reducible exact ih0 _ _ _ _)
      | (with_reducible exact LeO.refl _)
      | (with_reducible exact LeO.none _)
      | (with_reducible refine LeO.ite ?_ ?_)
      | (with_reducible refine LeO.bind ?_ (fun _ => ?_))
      | exact ih0 _ _ _ _
      | exact LeO.none _
      | refine LeO.ite ?_ ?_
      | refine LeO.bind ?_ (fun _ => ?_)
theorem octets_In_size.mono : ∀ a0 a1 a2 k, LeO (octets_In_size.f k a0 a1 a2) (octets_In_size.f (k + 1) a0 a1 a2) := by
  intro a0 a1 a2 k
  have ih0 := octets_In_size.mono_l k
  unfold octets_In_size.f
  repeat' first
      | (with_reducible exact ih0 _ _ _ _)
      | (with_reducible exact LeO.refl _)
      | (with_reducible exact LeO.none _)
      | (with_reducible refine LeO.ite ?_ ?_)
      | (with_reducible refine LeO.bind ?_ (fun _ => ?_))
      | exact ih0 _ _ _ _
      | exact LeO.none _
      | refine LeO.ite ?_ ?_
      | refine LeO.bind ?_ (fun _ => ?_)
set_option maxHeartbeats 8000000 in
set_option maxRecDepth 100000 in
theorem octets_In_size.calls (k : Nat) (g : Nat) (s0_0 : ByteArray) (s0_1 : Int) (a1 : Int) (r1 : Int) (r2 : ByteArray) (r3 : Int) (w0 w : World) (hI : IsS75 w0 w g s0_0 s0_1) (hB : Below w0.heap.size w0 w) (h : octets_In_size.f k s0_0 s0_1 a1 = some (r1, r2, r3)) :
    Calls Try.prog 41 #[.pointer (some ⟨g, 0, none⟩), .int .i64 a1] w fun e w' => e = .returned (.int .i64 r1) ∧ IsS75 w0 w' g r2 r3 ∧ Below w0.heap.size w0 w' ∧ KeepBut w w' g none := by
  have HI0 := Aside0.mk hI
  have HK := Aside0.mk (KeepBut.refl w g none)
  have HL := Aside0.mk hB.size
  clear hI
  have HW0 := Aside0.mk hB.size
  have HB := Aside0.mk hB
  clear hB
  have H : ((octets_In_Int.f s0_0 s0_1).bind fun bt116 => (if bt116.1 < 0 then ((octets_In_fail.f bt116.2.1 bt116.2.2 2).bind fun bt119 => ((octets_In_ready.f bt119.1 bt119.2).bind fun bt121 => (if bt121.1 = true then (some (bt116.1, bt121.2.1, bt121.2.2)) else (some (0, bt121.2.1, bt121.2.2))))) else (if bt116.1 > a1 then (octets_In_size.j0 k bt116.1 true bt116.2.1 bt116.2.2) else (octets_In_size.j0 k bt116.1 (decide (bt116.1 > 65536)) bt116.2.1 bt116.2.2)))) = some (r1, r2, r3) := h
  clear h
  replace H := Option.bind_eq_some_iff.mp H
  obtain ⟨⟨t116, t117, t118⟩, A30, H⟩ := H
  replace H : (if t116 < 0 then ((octets_In_fail.f t117 t118 2).bind fun bt119 => ((octets_In_ready.f bt119.1 bt119.2).bind fun bt121 => (if bt121.1 = true then (some (t116, bt121.2.1, bt121.2.2)) else (some (0, bt121.2.1, bt121.2.2))))) else (if t116 > a1 then (octets_In_size.j0 k t116 true t117 t118) else (octets_In_size.j0 k t116 (decide (t116 > 65536)) t117 t118))) = some (r1, r2, r3) := H
  have A3 := Aside0.mk A30
  clear A30
  by_cases c4 : t116 < 0
  · rw [if_pos c4] at H
    have c4b0 : decide (t116 < 0) = true := decide_eq_true c4
    clear c4
    replace H := Option.bind_eq_some_iff.mp H
    obtain ⟨⟨t119, t120⟩, A50, H⟩ := H
    replace H : ((octets_In_ready.f t119 t120).bind fun bt121 => (if bt121.1 = true then (some (t116, bt121.2.1, bt121.2.2)) else (some (0, bt121.2.1, bt121.2.2)))) = some (r1, r2, r3) := H
    have A5 := Aside0.mk A50
    clear A50
    replace H := Option.bind_eq_some_iff.mp H
    obtain ⟨⟨t121, t122, t123⟩, A60, H⟩ := H
    replace H : (if t121 = true then (some (t116, t122, t123)) else (some (0, t122, t123))) = some (r1, r2, r3) := H
    have A6 := Aside0.mk A60
    clear A60
    by_cases c7 : t121 = true
    · subst c7
      have H1 : (some (t116, t122, t123)) = some (r1, r2, r3) := by rw [if_pos rfl] at H; exact H
      clear H
      have H := H1
      clear H1
      simp only [Option.some.injEq, Prod.mk.injEq] at H
      obtain ⟨rfl, rfl, rfl⟩ := H
      go_enter Try.func41, Try.ntmps41
      go_wp2_with (first | ((with_reducible refine gate_callee (f := 17) rfl ?_); refine goesL_ (some 7) rfl rfl Try.func17 (by kernel_rfl) rfl #[.pointer (some ⟨g, 0, none⟩)] rfl (by (try simp only [List.map_toArray, List.map_cons, List.map_nil]); first | done | rfl | (simp only [List.length_drop, List.length_take]; rfl)) ?_; (with_reducible refine (octets_In_Int.calls g s0_0 s0_1 t116 t117 t118 w0 _ ?side1 ?side2 A3.out).mono ?_); (case side1 => repeat (first | (with_reducible first | exact HI0.out | apply IsS75.alloc | apply IsS75.drewN | apply IsS75.drew | apply IsS75.set_0 | apply IsS75.set_1) | exact HI0.out)); (case side2 => repeat (first | (with_reducible first | exact HB.out | apply below_alloc | apply pw_below_drewN | apply below_drew1 | refine below_set ?_ (IsS75.ge HI0.out)) | exact HB.out)); rintro e w8 ⟨rfl, hi, hb, hk⟩; refine ⟨_, rfl, ?_⟩; have n0_ := Aside0.mk (KeepBut.trans (by repeat (first | (with_reducible first | exact HK.out | apply KeepBut.set_ | apply keep_drewN | apply keep_drew | apply keep_alloc) | exact HK.out)) hk (.inl rfl)); have n1_ := Aside0.mk (hb); have n2_ := Aside0.mk (hi); clear HK; clear HB; clear HI0; have HK := n0_; have HB := n1_; have HI0 := n2_; clear n0_ n1_ n2_; (try clear hb); (try clear hb2); (try clear hk); (try clear hi)) | ((with_reducible refine gate_callee (f := 40) rfl ?_); refine goesL_ (some 12) rfl rfl Try.func40 (by kernel_rfl) rfl #[.pointer (some ⟨g, 0, none⟩), .int .i64 2] rfl (by (try simp only [List.map_toArray, List.map_cons, List.map_nil]); first | done | rfl | (simp only [List.length_drop, List.length_take]; rfl)) ?_; (with_reducible refine (octets_In_fail.calls g t117 t118 2 t119 t120 w0 _ ?side1 ?side2 A5.out).mono ?_); (case side1 => repeat (first | (with_reducible first | exact HI0.out | apply IsS75.alloc | apply IsS75.drewN | apply IsS75.drew | apply IsS75.set_0 | apply IsS75.set_1) | exact HI0.out)); (case side2 => repeat (first | (with_reducible first | exact HB.out | apply below_alloc | apply pw_below_drewN | apply below_drew1 | refine below_set ?_ (IsS75.ge HI0.out)) | exact HB.out)); rintro e w9 ⟨rfl, hi, hb, hk⟩; refine ⟨_, rfl, ?_⟩; have n0_ := Aside0.mk (KeepBut.trans (by repeat (first | (with_reducible first | exact HK.out | apply KeepBut.set_ | apply keep_drewN | apply keep_drew | apply keep_alloc) | exact HK.out)) hk (.inl rfl)); have n1_ := Aside0.mk (hb); have n2_ := Aside0.mk (hi); clear HK; clear HB; clear HI0; have HK := n0_; have HB := n1_; have HI0 := n2_; clear n0_ n1_ n2_; (try clear hb); (try clear hb2); (try clear hk); (try clear hi)) | ((with_reducible refine gate_callee (f := 39) rfl ?_); refine goesL_ (some 24) rfl rfl Try.func39 (by kernel_rfl) rfl #[.pointer (some ⟨g, 0, none⟩)] rfl (by (try simp only [List.map_toArray, List.map_cons, List.map_nil]); first | done | rfl | (simp only [List.length_drop, List.length_take]; rfl)) ?_; (with_reducible refine (octets_In_ready.calls g t119 t120 true t122 t123 w0 _ ?side1 ?side2 A6.out).mono ?_); (case side1 => repeat (first | (with_reducible first | exact HI0.out | apply IsS75.alloc | apply IsS75.drewN | apply IsS75.drew | apply IsS75.set_0 | apply IsS75.set_1) | exact HI0.out)); (case side2 => repeat (first | (with_reducible first | exact HB.out | apply below_alloc | apply pw_below_drewN | apply below_drew1 | refine below_set ?_ (IsS75.ge HI0.out)) | exact HB.out)); rintro e w10 ⟨rfl, hi, hb, hk⟩; refine ⟨_, rfl, ?_⟩; have n0_ := Aside0.mk (KeepBut.trans (by repeat (first | (with_reducible first | exact HK.out | apply KeepBut.set_ | apply keep_drewN | apply keep_drew | apply keep_alloc) | exact HK.out)) hk (.inl rfl)); have n1_ := Aside0.mk (hb); have n2_ := Aside0.mk (hi); clear HK; clear HB; clear HI0; have HK := n0_; have HB := n1_; have HI0 := n2_; clear n0_ n1_ n2_; (try clear hb); (try clear hb2); (try clear hk); (try clear hi)))
      go_ret
      exact ⟨by first | rfl | (simp [errW_none, errW_some] <;> rfl) | (simp [*, errW_none, errW_some] <;> rfl), by repeat (first | (with_reducible first | exact HI0.out | apply IsS75.alloc | apply IsS75.drewN | apply IsS75.drew | apply IsS75.set_0 | apply IsS75.set_1) | exact HI0.out), by repeat (first | (with_reducible first | exact HB.out | apply below_alloc | apply pw_below_drewN | apply below_drew1 | refine below_set ?_ (IsS75.ge HI0.out)) | exact HB.out), by repeat (first | (with_reducible first | exact HK.out | apply KeepBut.set_ | apply keep_drewN | apply keep_drew | apply keep_alloc) | exact HK.out)⟩
    · replace c7 := Bool.eq_false_iff.mpr c7
      subst c7
      have H1 : (some (0, t122, t123)) = some (r1, r2, r3) := by rw [if_neg (show ¬ (false = true) by decide)] at H; exact H
      clear H
      have H := H1
      clear H1
      simp only [Option.some.injEq, Prod.mk.injEq] at H
      obtain ⟨rfl, rfl, rfl⟩ := H
      go_enter Try.func41, Try.ntmps41
      go_wp2_with (first | ((with_reducible refine gate_callee (f := 17) rfl ?_); refine goesL_ (some 7) rfl rfl Try.func17 (by kernel_rfl) rfl #[.pointer (some ⟨g, 0, none⟩)] rfl (by (try simp only [List.map_toArray, List.map_cons, List.map_nil]); first | done | rfl | (simp only [List.length_drop, List.length_take]; rfl)) ?_; (with_reducible refine (octets_In_Int.calls g s0_0 s0_1 t116 t117 t118 w0 _ ?side1 ?side2 A3.out).mono ?_); (case side1 => repeat (first | (with_reducible first | exact HI0.out | apply IsS75.alloc | apply IsS75.drewN | apply IsS75.drew | apply IsS75.set_0 | apply IsS75.set_1) | exact HI0.out)); (case side2 => repeat (first | (with_reducible first | exact HB.out | apply below_alloc | apply pw_below_drewN | apply below_drew1 | refine below_set ?_ (IsS75.ge HI0.out)) | exact HB.out)); rintro e w11 ⟨rfl, hi, hb, hk⟩; refine ⟨_, rfl, ?_⟩; have n0_ := Aside0.mk (KeepBut.trans (by repeat (first | (with_reducible first | exact HK.out | apply KeepBut.set_ | apply keep_drewN | apply keep_drew | apply keep_alloc) | exact HK.out)) hk (.inl rfl)); have n1_ := Aside0.mk (hb); have n2_ := Aside0.mk (hi); clear HK; clear HB; clear HI0; have HK := n0_; have HB := n1_; have HI0 := n2_; clear n0_ n1_ n2_; (try clear hb); (try clear hb2); (try clear hk); (try clear hi)) | ((with_reducible refine gate_callee (f := 40) rfl ?_); refine goesL_ (some 12) rfl rfl Try.func40 (by kernel_rfl) rfl #[.pointer (some ⟨g, 0, none⟩), .int .i64 2] rfl (by (try simp only [List.map_toArray, List.map_cons, List.map_nil]); first | done | rfl | (simp only [List.length_drop, List.length_take]; rfl)) ?_; (with_reducible refine (octets_In_fail.calls g t117 t118 2 t119 t120 w0 _ ?side1 ?side2 A5.out).mono ?_); (case side1 => repeat (first | (with_reducible first | exact HI0.out | apply IsS75.alloc | apply IsS75.drewN | apply IsS75.drew | apply IsS75.set_0 | apply IsS75.set_1) | exact HI0.out)); (case side2 => repeat (first | (with_reducible first | exact HB.out | apply below_alloc | apply pw_below_drewN | apply below_drew1 | refine below_set ?_ (IsS75.ge HI0.out)) | exact HB.out)); rintro e w12 ⟨rfl, hi, hb, hk⟩; refine ⟨_, rfl, ?_⟩; have n0_ := Aside0.mk (KeepBut.trans (by repeat (first | (with_reducible first | exact HK.out | apply KeepBut.set_ | apply keep_drewN | apply keep_drew | apply keep_alloc) | exact HK.out)) hk (.inl rfl)); have n1_ := Aside0.mk (hb); have n2_ := Aside0.mk (hi); clear HK; clear HB; clear HI0; have HK := n0_; have HB := n1_; have HI0 := n2_; clear n0_ n1_ n2_; (try clear hb); (try clear hb2); (try clear hk); (try clear hi)) | ((with_reducible refine gate_callee (f := 39) rfl ?_); refine goesL_ (some 24) rfl rfl Try.func39 (by kernel_rfl) rfl #[.pointer (some ⟨g, 0, none⟩)] rfl (by (try simp only [List.map_toArray, List.map_cons, List.map_nil]); first | done | rfl | (simp only [List.length_drop, List.length_take]; rfl)) ?_; (with_reducible refine (octets_In_ready.calls g t119 t120 false t122 t123 w0 _ ?side1 ?side2 A6.out).mono ?_); (case side1 => repeat (first | (with_reducible first | exact HI0.out | apply IsS75.alloc | apply IsS75.drewN | apply IsS75.drew | apply IsS75.set_0 | apply IsS75.set_1) | exact HI0.out)); (case side2 => repeat (first | (with_reducible first | exact HB.out | apply below_alloc | apply pw_below_drewN | apply below_drew1 | refine below_set ?_ (IsS75.ge HI0.out)) | exact HB.out)); rintro e w13 ⟨rfl, hi, hb, hk⟩; refine ⟨_, rfl, ?_⟩; have n0_ := Aside0.mk (KeepBut.trans (by repeat (first | (with_reducible first | exact HK.out | apply KeepBut.set_ | apply keep_drewN | apply keep_drew | apply keep_alloc) | exact HK.out)) hk (.inl rfl)); have n1_ := Aside0.mk (hb); have n2_ := Aside0.mk (hi); clear HK; clear HB; clear HI0; have HK := n0_; have HB := n1_; have HI0 := n2_; clear n0_ n1_ n2_; (try clear hb); (try clear hb2); (try clear hk); (try clear hi)))
      go_ret
      exact ⟨by first | rfl | (simp [errW_none, errW_some] <;> rfl) | (simp [*, errW_none, errW_some] <;> rfl), by repeat (first | (with_reducible first | exact HI0.out | apply IsS75.alloc | apply IsS75.drewN | apply IsS75.drew | apply IsS75.set_0 | apply IsS75.set_1) | exact HI0.out), by repeat (first | (with_reducible first | exact HB.out | apply below_alloc | apply pw_below_drewN | apply below_drew1 | refine below_set ?_ (IsS75.ge HI0.out)) | exact HB.out), by repeat (first | (with_reducible first | exact HK.out | apply KeepBut.set_ | apply keep_drewN | apply keep_drew | apply keep_alloc) | exact HK.out)⟩
  · rw [if_neg c4] at H
    have c4b0 : decide (t116 < 0) = false := decide_eq_false c4
    clear c4
    have HC14 := Aside0.mk H
    clear H
    go_enter Try.func41, Try.ntmps41
    go_upto_region 4 with (first | ((with_reducible refine gate_callee (f := 17) rfl ?_); refine goesL_ (some 7) rfl rfl Try.func17 (by kernel_rfl) rfl #[.pointer (some ⟨g, 0, none⟩)] rfl (by (try simp only [List.map_toArray, List.map_cons, List.map_nil]); first | done | rfl | (simp only [List.length_drop, List.length_take]; rfl)) ?_; (with_reducible refine (octets_In_Int.calls g s0_0 s0_1 t116 t117 t118 w0 _ ?side1 ?side2 A3.out).mono ?_); (case side1 => repeat (first | (with_reducible first | exact HI0.out | apply IsS75.alloc | apply IsS75.drewN | apply IsS75.drew | apply IsS75.set_0 | apply IsS75.set_1) | exact HI0.out)); (case side2 => repeat (first | (with_reducible first | exact HB.out | apply below_alloc | apply pw_below_drewN | apply below_drew1 | refine below_set ?_ (IsS75.ge HI0.out)) | exact HB.out)); rintro e w15 ⟨rfl, hi, hb, hk⟩; refine ⟨_, rfl, ?_⟩; have n0_ := Aside0.mk (KeepBut.trans (by repeat (first | (with_reducible first | exact HK.out | apply KeepBut.set_ | apply keep_drewN | apply keep_drew | apply keep_alloc) | exact HK.out)) hk (.inl rfl)); have n1_ := Aside0.mk (hb); have n2_ := Aside0.mk (hi); clear HK; clear HB; clear HI0; have HK := n0_; have HB := n1_; have HI0 := n2_; clear n0_ n1_ n2_; (try clear hb); (try clear hb2); (try clear hk); (try clear hi)))
    (try simp only [Act.put, List.setIfInBounds_toArray, List.set_cons_zero, List.set_cons_succ])
    go_cut [13] (fun v13 wc => ∃ (kq : Nat) (x13_13 : Bool), v13 = .bool x13_13 ∧ Aside0 (octets_In_size.j0 kq t116 x13_13 t117 t118 = some (r1, r2, r3)) ∧ Aside0 (kq ≤ k) ∧ Aside0 (IsS75 w0 wc g t117 t118) ∧ Aside0 (KeepBut w wc g none) ∧ Aside0 (Below w0.heap.size w0 wc))
    case first =>
      have H := HC14.out
      clear HC14
      by_cases c16 : t116 > a1
      · rw [if_pos c16] at H
        have c16b0 : decide (a1 < t116) = true := decide_eq_true c16
        clear c16
        (first | rw [c16b0] | (simp only [i64_w, i32_w]; rw [c16b0]) | skip)
        have H' := Aside0.mk H
        clear H
        go_wp2
        go_meet
        case rel => exact ⟨_, (true), (by first | rfl | (simp; done) | (simp [*]; done)), H', ⟨by first | omega | exact Nat.le_refl _⟩, ⟨by repeat (first | (with_reducible first | exact HI0.out | apply IsS75.alloc | apply IsS75.drewN | apply IsS75.drew | apply IsS75.set_0 | apply IsS75.set_1) | exact HI0.out)⟩, ⟨by repeat (first | (with_reducible first | exact HK.out | apply KeepBut.set_ | apply keep_drewN | apply keep_drew | apply keep_alloc) | exact HK.out)⟩, ⟨by repeat (first | (with_reducible first | exact HB.out | apply below_alloc | apply pw_below_drewN | apply below_drew1 | refine below_set ?_ (IsS75.ge HI0.out)) | exact HB.out)⟩⟩
      · rw [if_neg c16] at H
        have c16b0 : decide (a1 < t116) = false := decide_eq_false c16
        clear c16
        (first | rw [c16b0] | (simp only [i64_w, i32_w]; rw [c16b0]) | skip)
        have H' := Aside0.mk H
        clear H
        go_wp2
        go_meet
        case rel => exact ⟨_, (decide (t116 > 65536)), (by first | rfl | (simp; done) | (simp [*]; done)), H', ⟨by first | omega | exact Nat.le_refl _⟩, ⟨by repeat (first | (with_reducible first | exact HI0.out | apply IsS75.alloc | apply IsS75.drewN | apply IsS75.drew | apply IsS75.set_0 | apply IsS75.set_1) | exact HI0.out)⟩, ⟨by repeat (first | (with_reducible first | exact HK.out | apply KeepBut.set_ | apply keep_drewN | apply keep_drew | apply keep_alloc) | exact HK.out)⟩, ⟨by repeat (first | (with_reducible first | exact HB.out | apply below_alloc | apply pw_below_drewN | apply below_drew1 | refine below_set ?_ (IsS75.ge HI0.out)) | exact HB.out)⟩⟩
    case rest =>
      clear HC14
      try clear c1
      try clear p2
      try clear c3
      try clear c4
      try clear c4b0
      try clear c7
      try clear c16
      try clear c16b0
      obtain ⟨kq, x13_13, rfl, HA, HJ13, HI0, HK, HB⟩ := hcut
      cases kq with
      | zero => exact absurd HA.out (by simp [octets_In_size.j0])
      | succ kj13 =>
        have H := HA.out
        clear HA
        simp only [octets_In_size.j0] at H
        by_cases c17 : x13_13 = true
        · subst c17
          have H1 : ((octets_In_fail.f t117 t118 6).bind fun bt124 => ((octets_In_ready.f bt124.1 bt124.2).bind fun bt126 => (if bt126.1 = true then (some (t116, bt126.2.1, bt126.2.2)) else (some (0, bt126.2.1, bt126.2.2))))) = some (r1, r2, r3) := by rw [if_pos rfl] at H; exact H
          clear H
          have H := H1
          clear H1
          replace H := Option.bind_eq_some_iff.mp H
          obtain ⟨⟨t124, t125⟩, A180, H⟩ := H
          replace H : ((octets_In_ready.f t124 t125).bind fun bt126 => (if bt126.1 = true then (some (t116, bt126.2.1, bt126.2.2)) else (some (0, bt126.2.1, bt126.2.2)))) = some (r1, r2, r3) := H
          have A18 := Aside0.mk A180
          clear A180
          replace H := Option.bind_eq_some_iff.mp H
          obtain ⟨⟨t126, t127, t128⟩, A190, H⟩ := H
          replace H : (if t126 = true then (some (t116, t127, t128)) else (some (0, t127, t128))) = some (r1, r2, r3) := H
          have A19 := Aside0.mk A190
          clear A190
          by_cases c20 : t126 = true
          · subst c20
            have H1 : (some (t116, t127, t128)) = some (r1, r2, r3) := by rw [if_pos rfl] at H; exact H
            clear H
            have H := H1
            clear H1
            simp only [Option.some.injEq, Prod.mk.injEq] at H
            obtain ⟨rfl, rfl, rfl⟩ := H
            go_wp2_with (first | ((with_reducible refine gate_callee (f := 40) rfl ?_); refine goesL_ (some 22) rfl rfl Try.func40 (by kernel_rfl) rfl #[.pointer (some ⟨g, 0, none⟩), .int .i64 6] rfl (by (try simp only [List.map_toArray, List.map_cons, List.map_nil]); first | done | rfl | (simp only [List.length_drop, List.length_take]; rfl)) ?_; (with_reducible refine (octets_In_fail.calls g t117 t118 6 t124 t125 w0 _ ?side1 ?side2 A18.out).mono ?_); (case side1 => repeat (first | (with_reducible first | exact HI0.out | apply IsS75.alloc | apply IsS75.drewN | apply IsS75.drew | apply IsS75.set_0 | apply IsS75.set_1) | exact HI0.out)); (case side2 => repeat (first | (with_reducible first | exact HB.out | apply below_alloc | apply pw_below_drewN | apply below_drew1 | refine below_set ?_ (IsS75.ge HI0.out)) | exact HB.out)); rintro e w21 ⟨rfl, hi, hb, hk⟩; refine ⟨_, rfl, ?_⟩; have n0_ := Aside0.mk (KeepBut.trans (by repeat (first | (with_reducible first | exact HK.out | apply KeepBut.set_ | apply keep_drewN | apply keep_drew | apply keep_alloc) | exact HK.out)) hk (.inl rfl)); have n1_ := Aside0.mk (hb); have n2_ := Aside0.mk (hi); clear HK; clear HB; clear HI0; have HK := n0_; have HB := n1_; have HI0 := n2_; clear n0_ n1_ n2_; (try clear hb); (try clear hb2); (try clear hk); (try clear hi)) | ((with_reducible refine gate_callee (f := 39) rfl ?_); refine goesL_ (some 24) rfl rfl Try.func39 (by kernel_rfl) rfl #[.pointer (some ⟨g, 0, none⟩)] rfl (by (try simp only [List.map_toArray, List.map_cons, List.map_nil]); first | done | rfl | (simp only [List.length_drop, List.length_take]; rfl)) ?_; (with_reducible refine (octets_In_ready.calls g t124 t125 true t127 t128 w0 _ ?side1 ?side2 A19.out).mono ?_); (case side1 => repeat (first | (with_reducible first | exact HI0.out | apply IsS75.alloc | apply IsS75.drewN | apply IsS75.drew | apply IsS75.set_0 | apply IsS75.set_1) | exact HI0.out)); (case side2 => repeat (first | (with_reducible first | exact HB.out | apply below_alloc | apply pw_below_drewN | apply below_drew1 | refine below_set ?_ (IsS75.ge HI0.out)) | exact HB.out)); rintro e w22 ⟨rfl, hi, hb, hk⟩; refine ⟨_, rfl, ?_⟩; have n0_ := Aside0.mk (KeepBut.trans (by repeat (first | (with_reducible first | exact HK.out | apply KeepBut.set_ | apply keep_drewN | apply keep_drew | apply keep_alloc) | exact HK.out)) hk (.inl rfl)); have n1_ := Aside0.mk (hb); have n2_ := Aside0.mk (hi); clear HK; clear HB; clear HI0; have HK := n0_; have HB := n1_; have HI0 := n2_; clear n0_ n1_ n2_; (try clear hb); (try clear hb2); (try clear hk); (try clear hi)))
            go_ret
            exact ⟨by first | rfl | (simp [errW_none, errW_some] <;> rfl) | (simp [*, errW_none, errW_some] <;> rfl), by repeat (first | (with_reducible first | exact HI0.out | apply IsS75.alloc | apply IsS75.drewN | apply IsS75.drew | apply IsS75.set_0 | apply IsS75.set_1) | exact HI0.out), by repeat (first | (with_reducible first | exact HB.out | apply below_alloc | apply pw_below_drewN | apply below_drew1 | refine below_set ?_ (IsS75.ge HI0.out)) | exact HB.out), by repeat (first | (with_reducible first | exact HK.out | apply KeepBut.set_ | apply keep_drewN | apply keep_drew | apply keep_alloc) | exact HK.out)⟩
          · replace c20 := Bool.eq_false_iff.mpr c20
            subst c20
            have H1 : (some (0, t127, t128)) = some (r1, r2, r3) := by rw [if_neg (show ¬ (false = true) by decide)] at H; exact H
            clear H
            have H := H1
            clear H1
            simp only [Option.some.injEq, Prod.mk.injEq] at H
            obtain ⟨rfl, rfl, rfl⟩ := H
            go_wp2_with (first | ((with_reducible refine gate_callee (f := 40) rfl ?_); refine goesL_ (some 22) rfl rfl Try.func40 (by kernel_rfl) rfl #[.pointer (some ⟨g, 0, none⟩), .int .i64 6] rfl (by (try simp only [List.map_toArray, List.map_cons, List.map_nil]); first | done | rfl | (simp only [List.length_drop, List.length_take]; rfl)) ?_; (with_reducible refine (octets_In_fail.calls g t117 t118 6 t124 t125 w0 _ ?side1 ?side2 A18.out).mono ?_); (case side1 => repeat (first | (with_reducible first | exact HI0.out | apply IsS75.alloc | apply IsS75.drewN | apply IsS75.drew | apply IsS75.set_0 | apply IsS75.set_1) | exact HI0.out)); (case side2 => repeat (first | (with_reducible first | exact HB.out | apply below_alloc | apply pw_below_drewN | apply below_drew1 | refine below_set ?_ (IsS75.ge HI0.out)) | exact HB.out)); rintro e w23 ⟨rfl, hi, hb, hk⟩; refine ⟨_, rfl, ?_⟩; have n0_ := Aside0.mk (KeepBut.trans (by repeat (first | (with_reducible first | exact HK.out | apply KeepBut.set_ | apply keep_drewN | apply keep_drew | apply keep_alloc) | exact HK.out)) hk (.inl rfl)); have n1_ := Aside0.mk (hb); have n2_ := Aside0.mk (hi); clear HK; clear HB; clear HI0; have HK := n0_; have HB := n1_; have HI0 := n2_; clear n0_ n1_ n2_; (try clear hb); (try clear hb2); (try clear hk); (try clear hi)) | ((with_reducible refine gate_callee (f := 39) rfl ?_); refine goesL_ (some 24) rfl rfl Try.func39 (by kernel_rfl) rfl #[.pointer (some ⟨g, 0, none⟩)] rfl (by (try simp only [List.map_toArray, List.map_cons, List.map_nil]); first | done | rfl | (simp only [List.length_drop, List.length_take]; rfl)) ?_; (with_reducible refine (octets_In_ready.calls g t124 t125 false t127 t128 w0 _ ?side1 ?side2 A19.out).mono ?_); (case side1 => repeat (first | (with_reducible first | exact HI0.out | apply IsS75.alloc | apply IsS75.drewN | apply IsS75.drew | apply IsS75.set_0 | apply IsS75.set_1) | exact HI0.out)); (case side2 => repeat (first | (with_reducible first | exact HB.out | apply below_alloc | apply pw_below_drewN | apply below_drew1 | refine below_set ?_ (IsS75.ge HI0.out)) | exact HB.out)); rintro e w24 ⟨rfl, hi, hb, hk⟩; refine ⟨_, rfl, ?_⟩; have n0_ := Aside0.mk (KeepBut.trans (by repeat (first | (with_reducible first | exact HK.out | apply KeepBut.set_ | apply keep_drewN | apply keep_drew | apply keep_alloc) | exact HK.out)) hk (.inl rfl)); have n1_ := Aside0.mk (hb); have n2_ := Aside0.mk (hi); clear HK; clear HB; clear HI0; have HK := n0_; have HB := n1_; have HI0 := n2_; clear n0_ n1_ n2_; (try clear hb); (try clear hb2); (try clear hk); (try clear hi)))
            go_ret
            exact ⟨by first | rfl | (simp [errW_none, errW_some] <;> rfl) | (simp [*, errW_none, errW_some] <;> rfl), by repeat (first | (with_reducible first | exact HI0.out | apply IsS75.alloc | apply IsS75.drewN | apply IsS75.drew | apply IsS75.set_0 | apply IsS75.set_1) | exact HI0.out), by repeat (first | (with_reducible first | exact HB.out | apply below_alloc | apply pw_below_drewN | apply below_drew1 | refine below_set ?_ (IsS75.ge HI0.out)) | exact HB.out), by repeat (first | (with_reducible first | exact HK.out | apply KeepBut.set_ | apply keep_drewN | apply keep_drew | apply keep_alloc) | exact HK.out)⟩
        · replace c17 := Bool.eq_false_iff.mpr c17
          subst c17
          have H1 : ((octets_In_ready.f t117 t118).bind fun bt129 => (if bt129.1 = true then (some (t116, bt129.2.1, bt129.2.2)) else (some (0, bt129.2.1, bt129.2.2)))) = some (r1, r2, r3) := by rw [if_neg (show ¬ (false = true) by decide)] at H; exact H
          clear H
          have H := H1
          clear H1
          replace H := Option.bind_eq_some_iff.mp H
          obtain ⟨⟨t129, t130, t131⟩, A250, H⟩ := H
          replace H : (if t129 = true then (some (t116, t130, t131)) else (some (0, t130, t131))) = some (r1, r2, r3) := H
          have A25 := Aside0.mk A250
          clear A250
          by_cases c26 : t129 = true
          · subst c26
            have H1 : (some (t116, t130, t131)) = some (r1, r2, r3) := by rw [if_pos rfl] at H; exact H
            clear H
            have H := H1
            clear H1
            simp only [Option.some.injEq, Prod.mk.injEq] at H
            obtain ⟨rfl, rfl, rfl⟩ := H
            go_wp2_with (first | ((with_reducible refine gate_callee (f := 39) rfl ?_); refine goesL_ (some 24) rfl rfl Try.func39 (by kernel_rfl) rfl #[.pointer (some ⟨g, 0, none⟩)] rfl (by (try simp only [List.map_toArray, List.map_cons, List.map_nil]); first | done | rfl | (simp only [List.length_drop, List.length_take]; rfl)) ?_; (with_reducible refine (octets_In_ready.calls g t117 t118 true t130 t131 w0 _ ?side1 ?side2 A25.out).mono ?_); (case side1 => repeat (first | (with_reducible first | exact HI0.out | apply IsS75.alloc | apply IsS75.drewN | apply IsS75.drew | apply IsS75.set_0 | apply IsS75.set_1) | exact HI0.out)); (case side2 => repeat (first | (with_reducible first | exact HB.out | apply below_alloc | apply pw_below_drewN | apply below_drew1 | refine below_set ?_ (IsS75.ge HI0.out)) | exact HB.out)); rintro e w27 ⟨rfl, hi, hb, hk⟩; refine ⟨_, rfl, ?_⟩; have n0_ := Aside0.mk (KeepBut.trans (by repeat (first | (with_reducible first | exact HK.out | apply KeepBut.set_ | apply keep_drewN | apply keep_drew | apply keep_alloc) | exact HK.out)) hk (.inl rfl)); have n1_ := Aside0.mk (hb); have n2_ := Aside0.mk (hi); clear HK; clear HB; clear HI0; have HK := n0_; have HB := n1_; have HI0 := n2_; clear n0_ n1_ n2_; (try clear hb); (try clear hb2); (try clear hk); (try clear hi)))
            go_ret
            exact ⟨by first | rfl | (simp [errW_none, errW_some] <;> rfl) | (simp [*, errW_none, errW_some] <;> rfl), by repeat (first | (with_reducible first | exact HI0.out | apply IsS75.alloc | apply IsS75.drewN | apply IsS75.drew | apply IsS75.set_0 | apply IsS75.set_1) | exact HI0.out), by repeat (first | (with_reducible first | exact HB.out | apply below_alloc | apply pw_below_drewN | apply below_drew1 | refine below_set ?_ (IsS75.ge HI0.out)) | exact HB.out), by repeat (first | (with_reducible first | exact HK.out | apply KeepBut.set_ | apply keep_drewN | apply keep_drew | apply keep_alloc) | exact HK.out)⟩
          · replace c26 := Bool.eq_false_iff.mpr c26
            subst c26
            have H1 : (some (0, t130, t131)) = some (r1, r2, r3) := by rw [if_neg (show ¬ (false = true) by decide)] at H; exact H
            clear H
            have H := H1
            clear H1
            simp only [Option.some.injEq, Prod.mk.injEq] at H
            obtain ⟨rfl, rfl, rfl⟩ := H
            go_wp2_with (first | ((with_reducible refine gate_callee (f := 39) rfl ?_); refine goesL_ (some 24) rfl rfl Try.func39 (by kernel_rfl) rfl #[.pointer (some ⟨g, 0, none⟩)] rfl (by (try simp only [List.map_toArray, List.map_cons, List.map_nil]); first | done | rfl | (simp only [List.length_drop, List.length_take]; rfl)) ?_; (with_reducible refine (octets_In_ready.calls g t117 t118 false t130 t131 w0 _ ?side1 ?side2 A25.out).mono ?_); (case side1 => repeat (first | (with_reducible first | exact HI0.out | apply IsS75.alloc | apply IsS75.drewN | apply IsS75.drew | apply IsS75.set_0 | apply IsS75.set_1) | exact HI0.out)); (case side2 => repeat (first | (with_reducible first | exact HB.out | apply below_alloc | apply pw_below_drewN | apply below_drew1 | refine below_set ?_ (IsS75.ge HI0.out)) | exact HB.out)); rintro e w28 ⟨rfl, hi, hb, hk⟩; refine ⟨_, rfl, ?_⟩; have n0_ := Aside0.mk (KeepBut.trans (by repeat (first | (with_reducible first | exact HK.out | apply KeepBut.set_ | apply keep_drewN | apply keep_drew | apply keep_alloc) | exact HK.out)) hk (.inl rfl)); have n1_ := Aside0.mk (hb); have n2_ := Aside0.mk (hi); clear HK; clear HB; clear HI0; have HK := n0_; have HB := n1_; have HI0 := n2_; clear n0_ n1_ n2_; (try clear hb); (try clear hb2); (try clear hk); (try clear hi)))
            go_ret
            exact ⟨by first | rfl | (simp [errW_none, errW_some] <;> rfl) | (simp [*, errW_none, errW_some] <;> rfl), by repeat (first | (with_reducible first | exact HI0.out | apply IsS75.alloc | apply IsS75.drewN | apply IsS75.drew | apply IsS75.set_0 | apply IsS75.set_1) | exact HI0.out), by repeat (first | (with_reducible first | exact HB.out | apply below_alloc | apply pw_below_drewN | apply below_drew1 | refine below_set ?_ (IsS75.ge HI0.out)) | exact HB.out), by repeat (first | (with_reducible first | exact HK.out | apply KeepBut.set_ | apply keep_drewN | apply keep_drew | apply keep_alloc) | exact HK.out)⟩

/-! ### octets_In_Text: function 22 -/
def octets_In_Text.j0 : Nat → Int → ByteArray → Int → Option (ByteArray × ByteArray × Int)
  | 0, _, _, _ => none
  | k + 1, x3, x1000, x1001 => (octets_In_ready.f x1000 x1001).bind fun bt138 => (if bt138.1 = true then (if x3 > (bt138.2.1.size : Int) then ((octets_In_fail.f bt138.2.1 bt138.2.2 3).bind fun bt141 => (some ((⟨#[]⟩ : ByteArray), bt141.1, bt141.2))) else (if 0 ≤ x3 then (if x3 ≤ (bt138.2.1.size : Int) then (some (bt138.2.1.extract 0 (x3 : Int).toNat, bt138.2.1.extract (x3 : Int).toNat bt138.2.1.size, bt138.2.2)) else (none)) else (none))) else (some ((⟨#[]⟩ : ByteArray), bt138.2.1, bt138.2.2)))
def octets_In_Text.f (k : Nat) (s0_0 : ByteArray) (s0_1 : Int) : Option (ByteArray × ByteArray × Int) := (octets_In_ready.f s0_0 s0_1).bind fun bt132 => (if bt132.1 = true then ((octets_In_size.f k bt132.2.1 bt132.2.2 65536).bind fun bt135 => (octets_In_Text.j0 k bt135.1 bt135.2.1 bt135.2.2)) else (octets_In_Text.j0 k 0 bt132.2.1 bt132.2.2))
theorem octets_In_Text.mono_l : ∀ k, (∀ y0 y1 y2, LeO (octets_In_Text.j0 k y0 y1 y2) (octets_In_Text.j0 (k + 1) y0 y1 y2))
  | 0 => fun _ _ _ r h => by simp [octets_In_Text.j0] at h
  | k + 1 => by
    have ih0 := octets_In_Text.mono_l k
    · intro y0 y1 y2
      unfold octets_In_Text.j0
      repeat' first
      | (with_reducible exact ih0 _ _ _)
      | (with_reducible exact octets_In_size.mono _ _ _ _)
      | (with_reducible exact LeO.refl _)
      | (with_reducible exact LeO.none _)
      | (with_reducible refine LeO.ite ?_ ?_)
      | (with_reducible refine LeO.bind ?_ (fun _ => ?_))
      | exact ih0 _ _ _
      | exact octets_In_size.mono _ _ _ _
      | exact LeO.none _
      | refine LeO.ite ?_ ?_
      | refine LeO.bind ?_ (fun _ => ?_)
theorem octets_In_Text.mono : ∀ a0 a1 k, LeO (octets_In_Text.f k a0 a1) (octets_In_Text.f (k + 1) a0 a1) := by
  intro a0 a1 k
  have ih0 := octets_In_Text.mono_l k
  unfold octets_In_Text.f
  repeat' first
      | (with_reducible exact ih0 _ _ _)
      | (with_reducible exact octets_In_size.mono _ _ _ _)
      | (with_reducible exact LeO.refl _)
      | (with_reducible exact LeO.none _)
      | (with_reducible refine LeO.ite ?_ ?_)
      | (with_reducible refine LeO.bind ?_ (fun _ => ?_))
      | exact ih0 _ _ _
      | exact octets_In_size.mono _ _ _ _
      | exact LeO.none _
      | refine LeO.ite ?_ ?_
      | refine LeO.bind ?_ (fun _ => ?_)
set_option maxHeartbeats 8000000 in
set_option maxRecDepth 100000 in
theorem octets_In_Text.calls (k : Nat) (g : Nat) (s0_0 : ByteArray) (s0_1 : Int) (r1 : ByteArray) (r2 : ByteArray) (r3 : Int) (w0 w : World) (hI : IsS75 w0 w g s0_0 s0_1) (hB : Below w0.heap.size w0 w) (h : octets_In_Text.f k s0_0 s0_1 = some (r1, r2, r3)) :
    Calls Try.prog 22 #[.pointer (some ⟨g, 0, none⟩)] w fun e w' => e = .returned (.string r1) ∧ IsS75 w0 w' g r2 r3 ∧ Below w0.heap.size w0 w' ∧ KeepBut w w' g none := by
  have HI0 := Aside0.mk hI
  have HK := Aside0.mk (KeepBut.refl w g none)
  have HL := Aside0.mk hB.size
  clear hI
  have HW0 := Aside0.mk hB.size
  have HB := Aside0.mk hB
  clear hB
  have H : ((octets_In_ready.f s0_0 s0_1).bind fun bt132 => (if bt132.1 = true then ((octets_In_size.f k bt132.2.1 bt132.2.2 65536).bind fun bt135 => (octets_In_Text.j0 k bt135.1 bt135.2.1 bt135.2.2)) else (octets_In_Text.j0 k 0 bt132.2.1 bt132.2.2))) = some (r1, r2, r3) := h
  clear h
  replace H := Option.bind_eq_some_iff.mp H
  obtain ⟨⟨t132, t133, t134⟩, A20, H⟩ := H
  replace H : (if t132 = true then ((octets_In_size.f k t133 t134 65536).bind fun bt135 => (octets_In_Text.j0 k bt135.1 bt135.2.1 bt135.2.2)) else (octets_In_Text.j0 k 0 t133 t134)) = some (r1, r2, r3) := H
  have A2 := Aside0.mk A20
  clear A20
  have HC3 := Aside0.mk H
  clear H
  go_enter Try.func22, Try.ntmps22
  go_upto_if 6 with (first | ((with_reducible refine gate_callee (f := 39) rfl ?_); refine goesL_ (some 6) rfl rfl Try.func39 (by kernel_rfl) rfl #[.pointer (some ⟨g, 0, none⟩)] rfl (by (try simp only [List.map_toArray, List.map_cons, List.map_nil]); first | done | rfl | (simp only [List.length_drop, List.length_take]; rfl)) ?_; (with_reducible refine (octets_In_ready.calls g s0_0 s0_1 t132 t133 t134 w0 _ ?side1 ?side2 A2.out).mono ?_); (case side1 => repeat (first | (with_reducible first | exact HI0.out | apply IsS75.alloc | apply IsS75.drewN | apply IsS75.drew | apply IsS75.set_0 | apply IsS75.set_1) | exact HI0.out)); (case side2 => repeat (first | (with_reducible first | exact HB.out | apply below_alloc | apply pw_below_drewN | apply below_drew1 | refine below_set ?_ (IsS75.ge HI0.out)) | exact HB.out)); rintro e w4 ⟨rfl, hi, hb, hk⟩; refine ⟨_, rfl, ?_⟩; have n0_ := Aside0.mk (KeepBut.trans (by repeat (first | (with_reducible first | exact HK.out | apply KeepBut.set_ | apply keep_drewN | apply keep_drew | apply keep_alloc) | exact HK.out)) hk (.inl rfl)); have n1_ := Aside0.mk (hb); have n2_ := Aside0.mk (hi); clear HK; clear HB; clear HI0; have HK := n0_; have HB := n1_; have HI0 := n2_; clear n0_ n1_ n2_; (try clear hb); (try clear hb2); (try clear hk); (try clear hi)))
  (try simp only [Act.put, List.setIfInBounds_toArray, List.set_cons_zero, List.set_cons_succ])
  go_cut [3] (fun v3 wc => ∃ (kq : Nat) (x3_2 : Int) (x1000_2 : ByteArray) (x1001_2 : Int), v3 = .int .i64 x3_2 ∧ Aside0 (octets_In_Text.j0 kq x3_2 x1000_2 x1001_2 = some (r1, r2, r3)) ∧ Aside0 (kq ≤ k) ∧ Aside0 (IsS75 w0 wc g x1000_2 x1001_2) ∧ Aside0 (KeepBut w wc g none) ∧ Aside0 (Below w0.heap.size w0 wc))
  case first =>
    have H := HC3.out
    clear HC3
    by_cases c5 : t132 = true
    · subst c5
      have H1 : ((octets_In_size.f k t133 t134 65536).bind fun bt135 => (octets_In_Text.j0 k bt135.1 bt135.2.1 bt135.2.2)) = some (r1, r2, r3) := by rw [if_pos rfl] at H; exact H
      clear H
      have H := H1
      clear H1
      replace H := Option.bind_eq_some_iff.mp H
      obtain ⟨⟨t135, t136, t137⟩, A60, H⟩ := H
      replace H : (octets_In_Text.j0 k t135 t136 t137) = some (r1, r2, r3) := H
      have A6 := Aside0.mk A60
      clear A60
      have H' := Aside0.mk H
      clear H
      go_wp2_with (first | ((with_reducible refine gate_callee (f := 41) rfl ?_); refine goesL_ (some 8) rfl rfl Try.func41 (by kernel_rfl) rfl #[.pointer (some ⟨g, 0, none⟩), .int .i64 65536] rfl (by (try simp only [List.map_toArray, List.map_cons, List.map_nil]); first | done | rfl | (simp only [List.length_drop, List.length_take]; rfl)) ?_; (with_reducible refine (octets_In_size.calls k g t133 t134 65536 t135 t136 t137 w0 _ ?side1 ?side2 A6.out).mono ?_); (case side1 => repeat (first | (with_reducible first | exact HI0.out | apply IsS75.alloc | apply IsS75.drewN | apply IsS75.drew | apply IsS75.set_0 | apply IsS75.set_1) | exact HI0.out)); (case side2 => repeat (first | (with_reducible first | exact HB.out | apply below_alloc | apply pw_below_drewN | apply below_drew1 | refine below_set ?_ (IsS75.ge HI0.out)) | exact HB.out)); rintro e w7 ⟨rfl, hi, hb, hk⟩; refine ⟨_, rfl, ?_⟩; have n0_ := Aside0.mk (KeepBut.trans (by repeat (first | (with_reducible first | exact HK.out | apply KeepBut.set_ | apply keep_drewN | apply keep_drew | apply keep_alloc) | exact HK.out)) hk (.inl rfl)); have n1_ := Aside0.mk (hb); have n2_ := Aside0.mk (hi); clear HK; clear HB; clear HI0; have HK := n0_; have HB := n1_; have HI0 := n2_; clear n0_ n1_ n2_; (try clear hb); (try clear hb2); (try clear hk); (try clear hi)))
      go_meet
      case rel => exact ⟨_, (t135), (t136), (t137), (by first | rfl | (simp; done) | (simp [*]; done)), H', ⟨by first | omega | exact Nat.le_refl _⟩, ⟨by repeat (first | (with_reducible first | exact HI0.out | apply IsS75.alloc | apply IsS75.drewN | apply IsS75.drew | apply IsS75.set_0 | apply IsS75.set_1) | exact HI0.out)⟩, ⟨by repeat (first | (with_reducible first | exact HK.out | apply KeepBut.set_ | apply keep_drewN | apply keep_drew | apply keep_alloc) | exact HK.out)⟩, ⟨by repeat (first | (with_reducible first | exact HB.out | apply below_alloc | apply pw_below_drewN | apply below_drew1 | refine below_set ?_ (IsS75.ge HI0.out)) | exact HB.out)⟩⟩
    · replace c5 := Bool.eq_false_iff.mpr c5
      subst c5
      have H1 : (octets_In_Text.j0 k 0 t133 t134) = some (r1, r2, r3) := by rw [if_neg (show ¬ (false = true) by decide)] at H; exact H
      clear H
      have H := H1
      clear H1
      have H' := Aside0.mk H
      clear H
      go_wp2
      go_meet
      case rel => exact ⟨_, (0), (t133), (t134), (by first | rfl | (simp; done) | (simp [*]; done)), H', ⟨by first | omega | exact Nat.le_refl _⟩, ⟨by repeat (first | (with_reducible first | exact HI0.out | apply IsS75.alloc | apply IsS75.drewN | apply IsS75.drew | apply IsS75.set_0 | apply IsS75.set_1) | exact HI0.out)⟩, ⟨by repeat (first | (with_reducible first | exact HK.out | apply KeepBut.set_ | apply keep_drewN | apply keep_drew | apply keep_alloc) | exact HK.out)⟩, ⟨by repeat (first | (with_reducible first | exact HB.out | apply below_alloc | apply pw_below_drewN | apply below_drew1 | refine below_set ?_ (IsS75.ge HI0.out)) | exact HB.out)⟩⟩
  case rest =>
    clear HC3
    try clear c2
    try clear p2
    try clear c3
    try clear c4
    try clear c5
    obtain ⟨kq, x3_2, x1000_2, x1001_2, rfl, HA, HJ2, HI0, HK, HB⟩ := hcut
    cases kq with
    | zero => exact absurd HA.out (by simp [octets_In_Text.j0])
    | succ kj2 =>
      have H := HA.out
      clear HA
      simp only [octets_In_Text.j0] at H
      replace H := Option.bind_eq_some_iff.mp H
      obtain ⟨⟨t138, t139, t140⟩, A80, H⟩ := H
      replace H : (if t138 = true then (if x3_2 > (t139.size : Int) then ((octets_In_fail.f t139 t140 3).bind fun bt141 => (some ((⟨#[]⟩ : ByteArray), bt141.1, bt141.2))) else (if 0 ≤ x3_2 then (if x3_2 ≤ (t139.size : Int) then (some (t139.extract 0 (x3_2 : Int).toNat, t139.extract (x3_2 : Int).toNat t139.size, t140)) else (none)) else (none))) else (some ((⟨#[]⟩ : ByteArray), t139, t140))) = some (r1, r2, r3) := H
      have A8 := Aside0.mk A80
      clear A80
      by_cases c9 : t138 = true
      · subst c9
        have H1 : (if x3_2 > (t139.size : Int) then ((octets_In_fail.f t139 t140 3).bind fun bt141 => (some ((⟨#[]⟩ : ByteArray), bt141.1, bt141.2))) else (if 0 ≤ x3_2 then (if x3_2 ≤ (t139.size : Int) then (some (t139.extract 0 (x3_2 : Int).toNat, t139.extract (x3_2 : Int).toNat t139.size, t140)) else (none)) else (none))) = some (r1, r2, r3) := by rw [if_pos rfl] at H; exact H
        clear H
        have H := H1
        clear H1
        by_cases c10 : x3_2 > (t139.size : Int)
        · rw [if_pos c10] at H
          have c10b0 : decide ((t139.size : Int) < x3_2) = true := decide_eq_true c10
          clear c10
          replace H := Option.bind_eq_some_iff.mp H
          obtain ⟨⟨t141, t142⟩, A110, H⟩ := H
          replace H : (some ((⟨#[]⟩ : ByteArray), t141, t142)) = some (r1, r2, r3) := H
          have A11 := Aside0.mk A110
          clear A110
          simp only [Option.some.injEq, Prod.mk.injEq] at H
          obtain ⟨rfl, rfl, rfl⟩ := H
          go_wp2_with (first | ((with_reducible refine gate_callee (f := 39) rfl ?_); refine goesL_ (some 10) rfl rfl Try.func39 (by kernel_rfl) rfl #[.pointer (some ⟨g, 0, none⟩)] rfl (by (try simp only [List.map_toArray, List.map_cons, List.map_nil]); first | done | rfl | (simp only [List.length_drop, List.length_take]; rfl)) ?_; (with_reducible refine (octets_In_ready.calls g x1000_2 x1001_2 true t139 t140 w0 _ ?side1 ?side2 A8.out).mono ?_); (case side1 => repeat (first | (with_reducible first | exact HI0.out | apply IsS75.alloc | apply IsS75.drewN | apply IsS75.drew | apply IsS75.set_0 | apply IsS75.set_1) | exact HI0.out)); (case side2 => repeat (first | (with_reducible first | exact HB.out | apply below_alloc | apply pw_below_drewN | apply below_drew1 | refine below_set ?_ (IsS75.ge HI0.out)) | exact HB.out)); rintro e w12 ⟨rfl, hi, hb, hk⟩; refine ⟨_, rfl, ?_⟩; have n0_ := Aside0.mk (KeepBut.trans (by repeat (first | (with_reducible first | exact HK.out | apply KeepBut.set_ | apply keep_drewN | apply keep_drew | apply keep_alloc) | exact HK.out)) hk (.inl rfl)); have n1_ := Aside0.mk (hb); have n2_ := Aside0.mk (hi); clear HK; clear HB; clear HI0; have HK := n0_; have HB := n1_; have HI0 := n2_; clear n0_ n1_ n2_; (try clear hb); (try clear hb2); (try clear hk); (try clear hi); obtain ⟨HGz13, hgz13⟩ := HI0.out; have hcz13_0 := cellS75_0 HGz13; have hcz13_1 := cellS75_1 HGz13; have hfz13_0 := blk_frozen HGz13 0; have hfz13_1 := blk_frozen HGz13 1; clear HGz13 hgz13) | ((with_reducible refine gate_callee (f := 40) rfl ?_); refine goesL_ (some 20) rfl rfl Try.func40 (by kernel_rfl) rfl #[.pointer (some ⟨g, 0, none⟩), .int .i64 3] rfl (by (try simp only [List.map_toArray, List.map_cons, List.map_nil]); first | done | rfl | (simp only [List.length_drop, List.length_take]; rfl)) ?_; (with_reducible refine (octets_In_fail.calls g t139 t140 3 t141 t142 w0 _ ?side1 ?side2 A11.out).mono ?_); (case side1 => repeat (first | (with_reducible first | exact HI0.out | apply IsS75.alloc | apply IsS75.drewN | apply IsS75.drew | apply IsS75.set_0 | apply IsS75.set_1) | exact HI0.out)); (case side2 => repeat (first | (with_reducible first | exact HB.out | apply below_alloc | apply pw_below_drewN | apply below_drew1 | refine below_set ?_ (IsS75.ge HI0.out)) | exact HB.out)); rintro e w14 ⟨rfl, hi, hb, hk⟩; refine ⟨_, rfl, ?_⟩; have n0_ := Aside0.mk (KeepBut.trans (by repeat (first | (with_reducible first | exact HK.out | apply KeepBut.set_ | apply keep_drewN | apply keep_drew | apply keep_alloc) | exact HK.out)) hk (.inl rfl)); have n1_ := Aside0.mk (hb); have n2_ := Aside0.mk (hi); clear HK; clear HB; clear HI0; have HK := n0_; have HB := n1_; have HI0 := n2_; clear n0_ n1_ n2_; (try clear hb); (try clear hb2); (try clear hk); (try clear hi)))
          go_ret
          exact ⟨by first | rfl | (simp [errW_none, errW_some] <;> rfl) | (simp [*, errW_none, errW_some] <;> rfl), by repeat (first | (with_reducible first | exact HI0.out | apply IsS75.alloc | apply IsS75.drewN | apply IsS75.drew | apply IsS75.set_0 | apply IsS75.set_1) | exact HI0.out), by repeat (first | (with_reducible first | exact HB.out | apply below_alloc | apply pw_below_drewN | apply below_drew1 | refine below_set ?_ (IsS75.ge HI0.out)) | exact HB.out), by repeat (first | (with_reducible first | exact HK.out | apply KeepBut.set_ | apply keep_drewN | apply keep_drew | apply keep_alloc) | exact HK.out)⟩
        · rw [if_neg c10] at H
          have c10b0 : decide ((t139.size : Int) < x3_2) = false := decide_eq_false c10
          clear c10
          by_cases c15 : 0 ≤ x3_2
          · rw [if_pos c15] at H
            have c15b0 := eq_true c15
            have c15b1 : decide (0 ≤ x3_2) = true := decide_eq_true c15
            clear c15
            by_cases c16 : x3_2 ≤ (t139.size : Int)
            · rw [if_pos c16] at H
              have c16b0 := eq_true c16
              have c16b1 : decide (x3_2 ≤ (t139.size : Int)) = true := decide_eq_true c16
              clear c16
              have c17b0 := eq_true (of_decide_eq_true (by first | (with_reducible assumption) | assumption) : 0 ≤ x3_2)
              have c18b0 := eq_true (of_decide_eq_true (by first | (with_reducible assumption) | assumption) : x3_2 ≤ (t139.size : Int))
              simp only [Option.some.injEq, Prod.mk.injEq] at H
              obtain ⟨rfl, rfl, rfl⟩ := H
              go_wp2_with (first | ((with_reducible refine gate_callee (f := 39) rfl ?_); refine goesL_ (some 10) rfl rfl Try.func39 (by kernel_rfl) rfl #[.pointer (some ⟨g, 0, none⟩)] rfl (by (try simp only [List.map_toArray, List.map_cons, List.map_nil]); first | done | rfl | (simp only [List.length_drop, List.length_take]; rfl)) ?_; (with_reducible refine (octets_In_ready.calls g x1000_2 x1001_2 true t139 t140 w0 _ ?side1 ?side2 A8.out).mono ?_); (case side1 => repeat (first | (with_reducible first | exact HI0.out | apply IsS75.alloc | apply IsS75.drewN | apply IsS75.drew | apply IsS75.set_0 | apply IsS75.set_1) | exact HI0.out)); (case side2 => repeat (first | (with_reducible first | exact HB.out | apply below_alloc | apply pw_below_drewN | apply below_drew1 | refine below_set ?_ (IsS75.ge HI0.out)) | exact HB.out)); rintro e w19 ⟨rfl, hi, hb, hk⟩; refine ⟨_, rfl, ?_⟩; have n0_ := Aside0.mk (KeepBut.trans (by repeat (first | (with_reducible first | exact HK.out | apply KeepBut.set_ | apply keep_drewN | apply keep_drew | apply keep_alloc) | exact HK.out)) hk (.inl rfl)); have n1_ := Aside0.mk (hb); have n2_ := Aside0.mk (hi); clear HK; clear HB; clear HI0; have HK := n0_; have HB := n1_; have HI0 := n2_; clear n0_ n1_ n2_; (try clear hb); (try clear hb2); (try clear hk); (try clear hi); obtain ⟨HGz20, hgz20⟩ := HI0.out; have hcz20_0 := cellS75_0 HGz20; have hcz20_1 := cellS75_1 HGz20; have hfz20_0 := blk_frozen HGz20 0; have hfz20_1 := blk_frozen HGz20 1; clear HGz20 hgz20))
              go_ret
              exact ⟨by first | rfl | (simp [errW_none, errW_some] <;> rfl) | (simp [*, errW_none, errW_some] <;> rfl), by repeat (first | (with_reducible first | exact HI0.out | apply IsS75.alloc | apply IsS75.drewN | apply IsS75.drew | apply IsS75.set_0 | apply IsS75.set_1) | exact HI0.out), by repeat (first | (with_reducible first | exact HB.out | apply below_alloc | apply pw_below_drewN | apply below_drew1 | refine below_set ?_ (IsS75.ge HI0.out)) | exact HB.out), by repeat (first | (with_reducible first | exact HK.out | apply KeepBut.set_ | apply keep_drewN | apply keep_drew | apply keep_alloc) | exact HK.out)⟩
            · rw [if_neg c16] at H
              exact absurd H (by simp)
          · rw [if_neg c15] at H
            exact absurd H (by simp)
      · replace c9 := Bool.eq_false_iff.mpr c9
        subst c9
        have H1 : (some ((⟨#[]⟩ : ByteArray), t139, t140)) = some (r1, r2, r3) := by rw [if_neg (show ¬ (false = true) by decide)] at H; exact H
        clear H
        have H := H1
        clear H1
        simp only [Option.some.injEq, Prod.mk.injEq] at H
        obtain ⟨rfl, rfl, rfl⟩ := H
        go_wp2_with (first | ((with_reducible refine gate_callee (f := 39) rfl ?_); refine goesL_ (some 10) rfl rfl Try.func39 (by kernel_rfl) rfl #[.pointer (some ⟨g, 0, none⟩)] rfl (by (try simp only [List.map_toArray, List.map_cons, List.map_nil]); first | done | rfl | (simp only [List.length_drop, List.length_take]; rfl)) ?_; (with_reducible refine (octets_In_ready.calls g x1000_2 x1001_2 false t139 t140 w0 _ ?side1 ?side2 A8.out).mono ?_); (case side1 => repeat (first | (with_reducible first | exact HI0.out | apply IsS75.alloc | apply IsS75.drewN | apply IsS75.drew | apply IsS75.set_0 | apply IsS75.set_1) | exact HI0.out)); (case side2 => repeat (first | (with_reducible first | exact HB.out | apply below_alloc | apply pw_below_drewN | apply below_drew1 | refine below_set ?_ (IsS75.ge HI0.out)) | exact HB.out)); rintro e w21 ⟨rfl, hi, hb, hk⟩; refine ⟨_, rfl, ?_⟩; have n0_ := Aside0.mk (KeepBut.trans (by repeat (first | (with_reducible first | exact HK.out | apply KeepBut.set_ | apply keep_drewN | apply keep_drew | apply keep_alloc) | exact HK.out)) hk (.inl rfl)); have n1_ := Aside0.mk (hb); have n2_ := Aside0.mk (hi); clear HK; clear HB; clear HI0; have HK := n0_; have HB := n1_; have HI0 := n2_; clear n0_ n1_ n2_; (try clear hb); (try clear hb2); (try clear hk); (try clear hi)))
        go_ret
        exact ⟨by first | rfl | (simp [errW_none, errW_some] <;> rfl) | (simp [*, errW_none, errW_some] <;> rfl), by repeat (first | (with_reducible first | exact HI0.out | apply IsS75.alloc | apply IsS75.drewN | apply IsS75.drew | apply IsS75.set_0 | apply IsS75.set_1) | exact HI0.out), by repeat (first | (with_reducible first | exact HB.out | apply below_alloc | apply pw_below_drewN | apply below_drew1 | refine below_set ?_ (IsS75.ge HI0.out)) | exact HB.out), by repeat (first | (with_reducible first | exact HK.out | apply KeepBut.set_ | apply keep_drewN | apply keep_drew | apply keep_alloc) | exact HK.out)⟩

/-! ### octets_In_Ints: function 25 -/
def octets_In_Ints.l0 : Nat → List Int → Int → Int → ByteArray → Int → Option (List Int × ByteArray × Int)
  | 0, _, _, _, _, _ => none
  | k + 1, x5, x11, x12, x1000, x1001 => if x12 < x11 then ((octets_In_Int.f x1000 x1001).bind fun bt149 => (if x5.length < 17592186044416 then ((octets_In_ready.f bt149.2.1 bt149.2.2).bind fun bt155 => (if bt155.1 = true then (octets_In_Ints.l0 k (x5 ++ [bt149.1]) x11 (wrap64 (x12 + 1)) bt155.2.1 bt155.2.2) else (some (([] : List Int), bt155.2.1, bt155.2.2)))) else (none))) else (some (x5, x1000, x1001))
def octets_In_Ints.f (k : Nat) (s0_0 : ByteArray) (s0_1 : Int) (a1 : Int) : Option (List Int × ByteArray × Int) := (octets_In_ready.f s0_0 s0_1).bind fun bt143 => (if bt143.1 = true then ((octets_In_size.f k bt143.2.1 bt143.2.2 a1).bind fun bt146 => (octets_In_Ints.l0 k ([] : List Int) bt146.1 0 bt146.2.1 bt146.2.2)) else (some (([] : List Int), bt143.2.1, bt143.2.2)))
theorem octets_In_Ints.mono_l : ∀ k, (∀ y0 y1 y2 y3 y4, LeO (octets_In_Ints.l0 k y0 y1 y2 y3 y4) (octets_In_Ints.l0 (k + 1) y0 y1 y2 y3 y4))
  | 0 => fun _ _ _ _ _ r h => by simp [octets_In_Ints.l0] at h
  | k + 1 => by
    have ih0 := octets_In_Ints.mono_l k
    · intro y0 y1 y2 y3 y4
      unfold octets_In_Ints.l0
      repeat' first
      | (with_reducible exact ih0 _ _ _ _ _)
      | (with_reducible exact octets_In_size.mono _ _ _ _)
      | (with_reducible exact LeO.refl _)
      | (with_reducible exact LeO.none _)
      | (with_reducible refine LeO.ite ?_ ?_)
      | (with_reducible refine LeO.bind ?_ (fun _ => ?_))
      | exact ih0 _ _ _ _ _
      | exact octets_In_size.mono _ _ _ _
      | exact LeO.none _
      | refine LeO.ite ?_ ?_
      | refine LeO.bind ?_ (fun _ => ?_)
theorem octets_In_Ints.mono : ∀ a0 a1 a2 k, LeO (octets_In_Ints.f k a0 a1 a2) (octets_In_Ints.f (k + 1) a0 a1 a2) := by
  intro a0 a1 a2 k
  have ih0 := octets_In_Ints.mono_l k
  unfold octets_In_Ints.f
  repeat' first
      | (with_reducible exact ih0 _ _ _ _ _)
      | (with_reducible exact octets_In_size.mono _ _ _ _)
      | (with_reducible exact LeO.refl _)
      | (with_reducible exact LeO.none _)
      | (with_reducible refine LeO.ite ?_ ?_)
      | (with_reducible refine LeO.bind ?_ (fun _ => ?_))
      | exact ih0 _ _ _ _ _
      | exact octets_In_size.mono _ _ _ _
      | exact LeO.none _
      | refine LeO.ite ?_ ?_
      | refine LeO.bind ?_ (fun _ => ?_)
set_option maxHeartbeats 8000000 in
set_option maxRecDepth 100000 in
theorem octets_In_Ints.calls (k : Nat) (g : Nat) (s0_0 : ByteArray) (s0_1 : Int) (a1 : Int) (r1 : List Int) (r2 : ByteArray) (r3 : Int) (w0 w : World) (hI : IsS75 w0 w g s0_0 s0_1) (hB : Below w0.heap.size w0 w) (h : octets_In_Ints.f k s0_0 s0_1 a1 = some (r1, r2, r3)) :
    Calls Try.prog 25 #[.pointer (some ⟨g, 0, none⟩), .int .i64 a1] w fun e w' => ∃ v0_ : Value, e = .returned (v0_) ∧ Kd.R (Kd.int .i64) 3 w' w.heap.size (fun _ => True) v0_ r1 ∧ IsS75 w0 w' g r2 r3 ∧ Below w0.heap.size w0 w' ∧ KeepBut w w' g none := by
  have HI0 := Aside0.mk hI
  have HK := Aside0.mk (KeepBut.refl w g none)
  have HL := Aside0.mk hB.size
  clear hI
  have HW0 := Aside0.mk hB.size
  have HB := Aside0.mk hB
  clear hB
  have H : ((octets_In_ready.f s0_0 s0_1).bind fun bt143 => (if bt143.1 = true then ((octets_In_size.f k bt143.2.1 bt143.2.2 a1).bind fun bt146 => (octets_In_Ints.l0 k ([] : List Int) bt146.1 0 bt146.2.1 bt146.2.2)) else (some (([] : List Int), bt143.2.1, bt143.2.2)))) = some (r1, r2, r3) := h
  clear h
  replace H := Option.bind_eq_some_iff.mp H
  obtain ⟨⟨t143, t144, t145⟩, A30, H⟩ := H
  replace H : (if t143 = true then ((octets_In_size.f k t144 t145 a1).bind fun bt146 => (octets_In_Ints.l0 k ([] : List Int) bt146.1 0 bt146.2.1 bt146.2.2)) else (some (([] : List Int), t144, t145))) = some (r1, r2, r3) := H
  have A3 := Aside0.mk A30
  clear A30
  by_cases c4 : t143 = true
  · subst c4
    have H1 : ((octets_In_size.f k t144 t145 a1).bind fun bt146 => (octets_In_Ints.l0 k ([] : List Int) bt146.1 0 bt146.2.1 bt146.2.2)) = some (r1, r2, r3) := by rw [if_pos rfl] at H; exact H
    clear H
    have H := H1
    clear H1
    replace H := Option.bind_eq_some_iff.mp H
    obtain ⟨⟨t146, t147, t148⟩, A50, H⟩ := H
    replace H : (octets_In_Ints.l0 k ([] : List Int) t146 0 t147 t148) = some (r1, r2, r3) := H
    have A5 := Aside0.mk A50
    clear A50
    have H' := Aside0.mk H
    clear H
    go_enter Try.func25, Try.ntmps25
    go_wp2_with (first | ((with_reducible refine gate_callee (f := 39) rfl ?_); refine goesL_ (some 7) rfl rfl Try.func39 (by kernel_rfl) rfl #[.pointer (some ⟨g, 0, none⟩)] rfl (by (try simp only [List.map_toArray, List.map_cons, List.map_nil]); first | done | rfl | (simp only [List.length_drop, List.length_take]; rfl)) ?_; (with_reducible refine (octets_In_ready.calls g s0_0 s0_1 true t144 t145 w0 _ ?side1 ?side2 A3.out).mono ?_); (case side1 => repeat (first | (with_reducible first | exact HI0.out | apply IsS75.alloc | apply IsS75.drewN | apply IsS75.drew | apply IsS75.set_0 | apply IsS75.set_1) | exact HI0.out)); (case side2 => repeat (first | (with_reducible first | exact HB.out | apply below_alloc | apply pw_below_drewN | apply below_drew1 | refine below_set ?_ (IsS75.ge HI0.out)) | exact HB.out)); rintro e w6 ⟨rfl, hi, hb, hk⟩; refine ⟨_, rfl, ?_⟩; have n0_ := Aside0.mk (KeepBut.trans (by repeat (first | (with_reducible first | exact HK.out | apply KeepBut.set_ | apply keep_drewN | apply keep_drew | apply keep_alloc) | exact HK.out)) hk (.inl rfl)); have n1_ := Aside0.mk (hb); have n2_ := Aside0.mk (hi); clear HK; clear HB; clear HI0; have HK := n0_; have HB := n1_; have HI0 := n2_; clear n0_ n1_ n2_; (try clear hb); (try clear hb2); (try clear hk); (try clear hi)) | ((with_reducible refine gate_callee (f := 41) rfl ?_); refine goesL_ (some 11) rfl rfl Try.func41 (by kernel_rfl) rfl #[.pointer (some ⟨g, 0, none⟩), .int .i64 a1] rfl (by (try simp only [List.map_toArray, List.map_cons, List.map_nil]); first | done | rfl | (simp only [List.length_drop, List.length_take]; rfl)) ?_; (with_reducible refine (octets_In_size.calls k g t144 t145 a1 t146 t147 t148 w0 _ ?side1 ?side2 A5.out).mono ?_); (case side1 => repeat (first | (with_reducible first | exact HI0.out | apply IsS75.alloc | apply IsS75.drewN | apply IsS75.drew | apply IsS75.set_0 | apply IsS75.set_1) | exact HI0.out)); (case side2 => repeat (first | (with_reducible first | exact HB.out | apply below_alloc | apply pw_below_drewN | apply below_drew1 | refine below_set ?_ (IsS75.ge HI0.out)) | exact HB.out)); rintro e w7 ⟨rfl, hi, hb, hk⟩; refine ⟨_, rfl, ?_⟩; have n0_ := Aside0.mk (KeepBut.trans (by repeat (first | (with_reducible first | exact HK.out | apply KeepBut.set_ | apply keep_drewN | apply keep_drew | apply keep_alloc) | exact HK.out)) hk (.inl rfl)); have n1_ := Aside0.mk (hb); have n2_ := Aside0.mk (hi); clear HK; clear HB; clear HI0; have HK := n0_; have HB := n1_; have HI0 := n2_; clear n0_ n1_ n2_; (try clear hb); (try clear hb2); (try clear hk); (try clear hi)))
    go_loopg [5, 12] k (fun kq v5 v12 w' => ∃ (x5_1 : List Int) (x12_1 : Int) (x1000_1 : ByteArray) (x1001_1 : Int), v12 = .int .i64 x12_1 ∧ Aside0 (octets_In_Ints.l0 kq x5_1 t146 x12_1 x1000_1 x1001_1 = some (r1, r2, r3)) ∧ Aside0 (kq ≤ k) ∧ Aside0 (Kd.R (Kd.int .i64) 3 w' w.heap.size (fun _ => True) v5 x5_1) ∧ Aside0 (IsS75 w0 w' g x1000_1 x1001_1) ∧ Aside0 (KeepBut w w' g none) ∧ Aside0 (Below w0.heap.size w0 w'))
    case atStart => exact ⟨(([] : List Int)), (0), (t147), (t148), (by first | rfl | (simp; done) | (simp [*]; done)), H', ⟨Nat.le_refl _⟩, ⟨by first | exact Kd.R_nil _ _ _ _ _ | exact Kd.N_nil _ _ _ _ _ | exact Kd.V_nil _ _ _ _ _ | exact Kd.Q_nil _ _ _ _ _ | exact Kd.S_nil _ _ _ _ _⟩, ⟨by repeat (first | (with_reducible first | exact HI0.out | apply IsS75.alloc | apply IsS75.drewN | apply IsS75.drew | apply IsS75.set_0 | apply IsS75.set_1) | exact HI0.out)⟩, ⟨by repeat (first | (with_reducible first | exact HK.out | apply KeepBut.set_ | apply keep_drewN | apply keep_drew | apply keep_alloc) | exact HK.out)⟩, ⟨by repeat (first | (with_reducible first | exact HB.out | apply below_alloc | apply pw_below_drewN | apply below_drew1 | refine below_set ?_ (IsS75.ge HI0.out)) | exact HB.out)⟩⟩
    case round =>
      clear H'
      try clear c2
      try clear p2
      try clear c3
      try clear c4
      obtain ⟨x5_1, x12_1, x1000_1, x1001_1, rfl, HA, HK1, HO_5, HI0, HK, HB⟩ := hrel
      cases gk with
      | zero => exact absurd HA.out (by simp [octets_In_Ints.l0])
      | succ k1 =>
        have H := HA.out
        clear HA
        simp only [octets_In_Ints.l0] at H
        by_cases c8 : x12_1 < t146
        · rw [if_pos c8] at H
          have c8b0 : decide (x12_1 < t146) = true := decide_eq_true c8
          clear c8
          replace H := Option.bind_eq_some_iff.mp H
          obtain ⟨⟨t149, t150, t151⟩, A90, H⟩ := H
          replace H : (if x5_1.length < 17592186044416 then ((octets_In_ready.f t150 t151).bind fun bt155 => (if bt155.1 = true then (octets_In_Ints.l0 k1 (x5_1 ++ [t149]) t146 (wrap64 (x12_1 + 1)) bt155.2.1 bt155.2.2) else (some (([] : List Int), bt155.2.1, bt155.2.2)))) else (none)) = some (r1, r2, r3) := H
          have A9 := Aside0.mk A90
          clear A90
          by_cases c10 : x5_1.length < 17592186044416
          · rw [if_pos c10] at H
            have LMc10 := Aside0.mk c10
            clear c10
            obtain ⟨y152, hy152⟩ : ∃ y_ : List Int, y_ = (x5_1 ++ [t149]) := ⟨_, rfl⟩
            replace H : ((octets_In_ready.f t150 t151).bind fun bt155 => (if bt155.1 = true then (octets_In_Ints.l0 k1 y152 t146 (wrap64 (x12_1 + 1)) bt155.2.1 bt155.2.2) else (some (([] : List Int), bt155.2.1, bt155.2.2)))) = some (r1, r2, r3) := by first | (rw [hy152]; with_reducible exact H) | (have H2_ := (Option.bind_some _ _).symm.trans H; rw [hy152]; with_reducible exact H2_) | (have H2_ := (Option.bind_some _ _).symm.trans H; with_reducible exact H2_) | with_reducible exact H | (rw [hy152]; exact H) | exact H
            have Ny152 := Aside0.mk hy152
            clear hy152
            replace H := Option.bind_eq_some_iff.mp H
            obtain ⟨⟨t155, t156, t157⟩, A110, H⟩ := H
            replace H : (if t155 = true then (octets_In_Ints.l0 k1 y152 t146 (wrap64 (x12_1 + 1)) t156 t157) else (some (([] : List Int), t156, t157))) = some (r1, r2, r3) := H
            have A11 := Aside0.mk A110
            clear A110
            by_cases c12 : t155 = true
            · subst c12
              have H1 : (octets_In_Ints.l0 k1 y152 t146 (wrap64 (x12_1 + 1)) t156 t157) = some (r1, r2, r3) := by rw [if_pos rfl] at H; exact H
              clear H
              have H := H1
              clear H1
              have H' := Aside0.mk H
              clear H
              go_wp2_with (first | ((with_reducible refine gate_callee (f := 17) rfl ?_); refine goesL_ (some 16) rfl rfl Try.func17 (by kernel_rfl) rfl #[.pointer (some ⟨g, 0, none⟩)] rfl (by (try simp only [List.map_toArray, List.map_cons, List.map_nil]); first | done | rfl | (simp only [List.length_drop, List.length_take]; rfl)) ?_; (with_reducible refine (octets_In_Int.calls g x1000_1 x1001_1 t149 t150 t151 w0 _ ?side1 ?side2 A9.out).mono ?_); (case side1 => repeat (first | (with_reducible first | exact HI0.out | apply IsS75.alloc | apply IsS75.drewN | apply IsS75.drew | apply IsS75.set_0 | apply IsS75.set_1) | exact HI0.out)); (case side2 => repeat (first | (with_reducible first | exact HB.out | apply below_alloc | apply pw_below_drewN | apply below_drew1 | refine below_set ?_ (IsS75.ge HI0.out)) | exact HB.out)); rintro e w13 ⟨rfl, hi, hb, hk⟩; refine ⟨_, rfl, ?_⟩; have n0_ := Aside0.mk (Kd.R_mono (Kd.R_keep (IsS75.apart (show IsS75 w0 _ g x1000_1 x1001_1 from by repeat (first | (with_reducible first | exact HI0.out | apply IsS75.alloc | apply IsS75.drewN | apply IsS75.drew | apply IsS75.set_0 | apply IsS75.set_1) | exact HI0.out)) (by (with_reducible repeat (first | apply Kd.R_alloc | apply Kd.R_drewN | apply Kd.R_drew)); exact HO_5.out) (by decide)) hk (fun _ h => h.2)) (fun _ h => h.1)); have n1_ := Aside0.mk (KeepBut.trans (by repeat (first | (with_reducible first | exact HK.out | apply KeepBut.set_ | apply keep_drewN | apply keep_drew | apply keep_alloc) | exact HK.out)) hk (.inl rfl)); have n2_ := Aside0.mk (hb); have n3_ := Aside0.mk (hi); clear HO_5; clear HK; clear HB; clear HI0; have HO_5 := n0_; have HK := n1_; have HB := n2_; have HI0 := n3_; clear n0_ n1_ n2_ n3_; (try clear hb); (try clear hb2); (try clear hk); (try clear hi)) | ((with_reducible refine gate_builtin (b := .append) (xs := #[.tmp 14, .tmp 17]) rfl ?_); at_builtin; refine Kd.R_append (Kd.int .i64) w.heap.size rfl (.tmp 14) (.tmp 17) 31 3 (.int .i64 0) 8 rfl Try.underlying31 info3 rfl (by decide) (by omega) u5 x5_1 t149 [.int .i64 t149] (fun _ => True) (fun _ => False) rfl rfl ?aP (fun _ hk => hk.elim) ?aF ?aO (Below.refl _ _) ?aS ?aL ?_; (case aP => exact rfl); (case aF => exact (fun _ _ => trivial)); (case aO => exact (by (with_reducible repeat (first | apply Kd.R_alloc | apply Kd.R_drewN | apply Kd.R_drew)); exact HO_5.out)); (case aS => exact (keep_size (w := w) (g := g) (row := none) (by repeat (first | (with_reducible first | exact HK.out | apply KeepBut.set_ | apply keep_drewN | apply keep_drew | apply keep_alloc) | exact HK.out)))); (case aL => have := LMc10.out; omega); intro v153 w14 ho hb hg hat; rw [← Ny152.out] at ho; have n0_ := Aside0.mk (IsS75.grown (by repeat (first | (with_reducible first | exact HI0.out | apply IsS75.alloc | apply IsS75.drewN | apply IsS75.drew | apply IsS75.set_0 | apply IsS75.set_1) | exact HI0.out)) hg (IsS75.own_ne HI0.out HO_5.out (by decide))); have n1_ := Aside0.mk (below_weaken (by repeat (first | (with_reducible first | exact HB.out | apply below_alloc | apply pw_below_drewN | apply below_drew1 | refine below_set ?_ (IsS75.ge HI0.out)) | exact HB.out)) HL.out hb); have n2_ := Aside0.mk (KeepBut.trans (by repeat (first | (with_reducible first | exact HK.out | apply KeepBut.set_ | apply keep_drewN | apply keep_drew | apply keep_alloc) | exact HK.out)) (KeepBut.of_grown hg g) (Kd.R_base2 HO_5.out)); have n3_ := Aside0.mk (ho); clear HI0; clear HB; clear HK; clear HO_5; have HI0 := n0_; have HB := n1_; have HK := n2_; have HO154 := n3_; clear n0_ n1_ n2_ n3_; clear ho hb hg hat) | ((with_reducible refine gate_callee (f := 39) rfl ?_); refine goesL_ (some 20) rfl rfl Try.func39 (by kernel_rfl) rfl #[.pointer (some ⟨g, 0, none⟩)] rfl (by (try simp only [List.map_toArray, List.map_cons, List.map_nil]); first | done | rfl | (simp only [List.length_drop, List.length_take]; rfl)) ?_; (with_reducible refine (octets_In_ready.calls g t150 t151 true t156 t157 w0 _ ?side1 ?side2 A11.out).mono ?_); (case side1 => repeat (first | (with_reducible first | exact HI0.out | apply IsS75.alloc | apply IsS75.drewN | apply IsS75.drew | apply IsS75.set_0 | apply IsS75.set_1) | exact HI0.out)); (case side2 => repeat (first | (with_reducible first | exact HB.out | apply below_alloc | apply pw_below_drewN | apply below_drew1 | refine below_set ?_ (IsS75.ge HI0.out)) | exact HB.out)); rintro e w15 ⟨rfl, hi, hb, hk⟩; refine ⟨_, rfl, ?_⟩; have n0_ := Aside0.mk (Kd.R_mono (Kd.R_keep (IsS75.apart (show IsS75 w0 _ g t150 t151 from by repeat (first | (with_reducible first | exact HI0.out | apply IsS75.alloc | apply IsS75.drewN | apply IsS75.drew | apply IsS75.set_0 | apply IsS75.set_1) | exact HI0.out)) (by (with_reducible repeat (first | apply Kd.R_alloc | apply Kd.R_drewN | apply Kd.R_drew)); exact HO154.out) (by decide)) hk (fun _ h => h.2)) (fun _ h => h.1)); have n1_ := Aside0.mk (KeepBut.trans (by repeat (first | (with_reducible first | exact HK.out | apply KeepBut.set_ | apply keep_drewN | apply keep_drew | apply keep_alloc) | exact HK.out)) hk (.inl rfl)); have n2_ := Aside0.mk (hb); have n3_ := Aside0.mk (hi); clear HO154; clear HK; clear HB; clear HI0; have HO154 := n0_; have HK := n1_; have HB := n2_; have HI0 := n3_; clear n0_ n1_ n2_ n3_; (try clear hb); (try clear hb2); (try clear hk); (try clear hi)))
              go_roundg k1
              case measure => have := HK1.out; omega
              case rel => exact ⟨(y152), (wrap64 (x12_1 + 1)), (t156), (t157), (by first | rfl | (simp; done) | (simp [*]; done)), H', ⟨by have := HK1.out; omega⟩, ⟨by (with_reducible repeat (first | apply Kd.R_alloc | apply Kd.R_drewN | apply Kd.R_drew)); exact HO154.out⟩, ⟨by repeat (first | (with_reducible first | exact HI0.out | apply IsS75.alloc | apply IsS75.drewN | apply IsS75.drew | apply IsS75.set_0 | apply IsS75.set_1) | exact HI0.out)⟩, ⟨by repeat (first | (with_reducible first | exact HK.out | apply KeepBut.set_ | apply keep_drewN | apply keep_drew | apply keep_alloc) | exact HK.out)⟩, ⟨by repeat (first | (with_reducible first | exact HB.out | apply below_alloc | apply pw_below_drewN | apply below_drew1 | refine below_set ?_ (IsS75.ge HI0.out)) | exact HB.out)⟩⟩
            · replace c12 := Bool.eq_false_iff.mpr c12
              subst c12
              have H1 : (some (([] : List Int), t156, t157)) = some (r1, r2, r3) := by rw [if_neg (show ¬ (false = true) by decide)] at H; exact H
              clear H
              have H := H1
              clear H1
              simp only [Option.some.injEq, Prod.mk.injEq] at H
              obtain ⟨rfl, rfl, rfl⟩ := H
              go_wp2_with (first | ((with_reducible refine gate_callee (f := 17) rfl ?_); refine goesL_ (some 16) rfl rfl Try.func17 (by kernel_rfl) rfl #[.pointer (some ⟨g, 0, none⟩)] rfl (by (try simp only [List.map_toArray, List.map_cons, List.map_nil]); first | done | rfl | (simp only [List.length_drop, List.length_take]; rfl)) ?_; (with_reducible refine (octets_In_Int.calls g x1000_1 x1001_1 t149 t150 t151 w0 _ ?side1 ?side2 A9.out).mono ?_); (case side1 => repeat (first | (with_reducible first | exact HI0.out | apply IsS75.alloc | apply IsS75.drewN | apply IsS75.drew | apply IsS75.set_0 | apply IsS75.set_1) | exact HI0.out)); (case side2 => repeat (first | (with_reducible first | exact HB.out | apply below_alloc | apply pw_below_drewN | apply below_drew1 | refine below_set ?_ (IsS75.ge HI0.out)) | exact HB.out)); rintro e w16 ⟨rfl, hi, hb, hk⟩; refine ⟨_, rfl, ?_⟩; have n0_ := Aside0.mk (Kd.R_mono (Kd.R_keep (IsS75.apart (show IsS75 w0 _ g x1000_1 x1001_1 from by repeat (first | (with_reducible first | exact HI0.out | apply IsS75.alloc | apply IsS75.drewN | apply IsS75.drew | apply IsS75.set_0 | apply IsS75.set_1) | exact HI0.out)) (by (with_reducible repeat (first | apply Kd.R_alloc | apply Kd.R_drewN | apply Kd.R_drew)); exact HO_5.out) (by decide)) hk (fun _ h => h.2)) (fun _ h => h.1)); have n1_ := Aside0.mk (KeepBut.trans (by repeat (first | (with_reducible first | exact HK.out | apply KeepBut.set_ | apply keep_drewN | apply keep_drew | apply keep_alloc) | exact HK.out)) hk (.inl rfl)); have n2_ := Aside0.mk (hb); have n3_ := Aside0.mk (hi); clear HO_5; clear HK; clear HB; clear HI0; have HO_5 := n0_; have HK := n1_; have HB := n2_; have HI0 := n3_; clear n0_ n1_ n2_ n3_; (try clear hb); (try clear hb2); (try clear hk); (try clear hi)) | ((with_reducible refine gate_builtin (b := .append) (xs := #[.tmp 14, .tmp 17]) rfl ?_); at_builtin; refine Kd.R_append (Kd.int .i64) w.heap.size rfl (.tmp 14) (.tmp 17) 31 3 (.int .i64 0) 8 rfl Try.underlying31 info3 rfl (by decide) (by omega) u5 x5_1 t149 [.int .i64 t149] (fun _ => True) (fun _ => False) rfl rfl ?aP (fun _ hk => hk.elim) ?aF ?aO (Below.refl _ _) ?aS ?aL ?_; (case aP => exact rfl); (case aF => exact (fun _ _ => trivial)); (case aO => exact (by (with_reducible repeat (first | apply Kd.R_alloc | apply Kd.R_drewN | apply Kd.R_drew)); exact HO_5.out)); (case aS => exact (keep_size (w := w) (g := g) (row := none) (by repeat (first | (with_reducible first | exact HK.out | apply KeepBut.set_ | apply keep_drewN | apply keep_drew | apply keep_alloc) | exact HK.out)))); (case aL => have := LMc10.out; omega); intro v153 w17 ho hb hg hat; rw [← Ny152.out] at ho; have n0_ := Aside0.mk (IsS75.grown (by repeat (first | (with_reducible first | exact HI0.out | apply IsS75.alloc | apply IsS75.drewN | apply IsS75.drew | apply IsS75.set_0 | apply IsS75.set_1) | exact HI0.out)) hg (IsS75.own_ne HI0.out HO_5.out (by decide))); have n1_ := Aside0.mk (below_weaken (by repeat (first | (with_reducible first | exact HB.out | apply below_alloc | apply pw_below_drewN | apply below_drew1 | refine below_set ?_ (IsS75.ge HI0.out)) | exact HB.out)) HL.out hb); have n2_ := Aside0.mk (KeepBut.trans (by repeat (first | (with_reducible first | exact HK.out | apply KeepBut.set_ | apply keep_drewN | apply keep_drew | apply keep_alloc) | exact HK.out)) (KeepBut.of_grown hg g) (Kd.R_base2 HO_5.out)); have n3_ := Aside0.mk (ho); clear HI0; clear HB; clear HK; clear HO_5; have HI0 := n0_; have HB := n1_; have HK := n2_; have HO154 := n3_; clear n0_ n1_ n2_ n3_; clear ho hb hg hat) | ((with_reducible refine gate_callee (f := 39) rfl ?_); refine goesL_ (some 20) rfl rfl Try.func39 (by kernel_rfl) rfl #[.pointer (some ⟨g, 0, none⟩)] rfl (by (try simp only [List.map_toArray, List.map_cons, List.map_nil]); first | done | rfl | (simp only [List.length_drop, List.length_take]; rfl)) ?_; (with_reducible refine (octets_In_ready.calls g t150 t151 false t156 t157 w0 _ ?side1 ?side2 A11.out).mono ?_); (case side1 => repeat (first | (with_reducible first | exact HI0.out | apply IsS75.alloc | apply IsS75.drewN | apply IsS75.drew | apply IsS75.set_0 | apply IsS75.set_1) | exact HI0.out)); (case side2 => repeat (first | (with_reducible first | exact HB.out | apply below_alloc | apply pw_below_drewN | apply below_drew1 | refine below_set ?_ (IsS75.ge HI0.out)) | exact HB.out)); rintro e w18 ⟨rfl, hi, hb, hk⟩; refine ⟨_, rfl, ?_⟩; have n0_ := Aside0.mk (Kd.R_mono (Kd.R_keep (IsS75.apart (show IsS75 w0 _ g t150 t151 from by repeat (first | (with_reducible first | exact HI0.out | apply IsS75.alloc | apply IsS75.drewN | apply IsS75.drew | apply IsS75.set_0 | apply IsS75.set_1) | exact HI0.out)) (by (with_reducible repeat (first | apply Kd.R_alloc | apply Kd.R_drewN | apply Kd.R_drew)); exact HO154.out) (by decide)) hk (fun _ h => h.2)) (fun _ h => h.1)); have n1_ := Aside0.mk (KeepBut.trans (by repeat (first | (with_reducible first | exact HK.out | apply KeepBut.set_ | apply keep_drewN | apply keep_drew | apply keep_alloc) | exact HK.out)) hk (.inl rfl)); have n2_ := Aside0.mk (hb); have n3_ := Aside0.mk (hi); clear HO154; clear HK; clear HB; clear HI0; have HO154 := n0_; have HK := n1_; have HB := n2_; have HI0 := n3_; clear n0_ n1_ n2_ n3_; (try clear hb); (try clear hb2); (try clear hk); (try clear hi)))
              go_ret
              exact ⟨_, by first | rfl | (simp [errW_none, errW_some] <;> rfl) | (simp [*, errW_none, errW_some] <;> rfl), by first | exact Kd.R_nil _ _ _ _ _ | exact Kd.N_nil _ _ _ _ _ | exact Kd.V_nil _ _ _ _ _ | exact Kd.Q_nil _ _ _ _ _ | exact Kd.S_nil _ _ _ _ _, by repeat (first | (with_reducible first | exact HI0.out | apply IsS75.alloc | apply IsS75.drewN | apply IsS75.drew | apply IsS75.set_0 | apply IsS75.set_1) | exact HI0.out), by repeat (first | (with_reducible first | exact HB.out | apply below_alloc | apply pw_below_drewN | apply below_drew1 | refine below_set ?_ (IsS75.ge HI0.out)) | exact HB.out), by repeat (first | (with_reducible first | exact HK.out | apply KeepBut.set_ | apply keep_drewN | apply keep_drew | apply keep_alloc) | exact HK.out)⟩
          · rw [if_neg c10] at H
            exact absurd H (by simp)
        · rw [if_neg c8] at H
          have c8b0 : decide (x12_1 < t146) = false := decide_eq_false c8
          clear c8
          simp only [Option.some.injEq, Prod.mk.injEq] at H
          obtain ⟨rfl, rfl, rfl⟩ := H
          go_wp2
          go_ret
          exact ⟨_, by first | rfl | (simp [errW_none, errW_some] <;> rfl) | (simp [*, errW_none, errW_some] <;> rfl), by (with_reducible repeat (first | apply Kd.R_alloc | apply Kd.R_drewN | apply Kd.R_drew)); exact HO_5.out, by repeat (first | (with_reducible first | exact HI0.out | apply IsS75.alloc | apply IsS75.drewN | apply IsS75.drew | apply IsS75.set_0 | apply IsS75.set_1) | exact HI0.out), by repeat (first | (with_reducible first | exact HB.out | apply below_alloc | apply pw_below_drewN | apply below_drew1 | refine below_set ?_ (IsS75.ge HI0.out)) | exact HB.out), by repeat (first | (with_reducible first | exact HK.out | apply KeepBut.set_ | apply keep_drewN | apply keep_drew | apply keep_alloc) | exact HK.out)⟩
  · replace c4 := Bool.eq_false_iff.mpr c4
    subst c4
    have H1 : (some (([] : List Int), t144, t145)) = some (r1, r2, r3) := by rw [if_neg (show ¬ (false = true) by decide)] at H; exact H
    clear H
    have H := H1
    clear H1
    simp only [Option.some.injEq, Prod.mk.injEq] at H
    obtain ⟨rfl, rfl, rfl⟩ := H
    go_enter Try.func25, Try.ntmps25
    go_wp2_with (first | ((with_reducible refine gate_callee (f := 39) rfl ?_); refine goesL_ (some 7) rfl rfl Try.func39 (by kernel_rfl) rfl #[.pointer (some ⟨g, 0, none⟩)] rfl (by (try simp only [List.map_toArray, List.map_cons, List.map_nil]); first | done | rfl | (simp only [List.length_drop, List.length_take]; rfl)) ?_; (with_reducible refine (octets_In_ready.calls g s0_0 s0_1 false t144 t145 w0 _ ?side1 ?side2 A3.out).mono ?_); (case side1 => repeat (first | (with_reducible first | exact HI0.out | apply IsS75.alloc | apply IsS75.drewN | apply IsS75.drew | apply IsS75.set_0 | apply IsS75.set_1) | exact HI0.out)); (case side2 => repeat (first | (with_reducible first | exact HB.out | apply below_alloc | apply pw_below_drewN | apply below_drew1 | refine below_set ?_ (IsS75.ge HI0.out)) | exact HB.out)); rintro e w19 ⟨rfl, hi, hb, hk⟩; refine ⟨_, rfl, ?_⟩; have n0_ := Aside0.mk (KeepBut.trans (by repeat (first | (with_reducible first | exact HK.out | apply KeepBut.set_ | apply keep_drewN | apply keep_drew | apply keep_alloc) | exact HK.out)) hk (.inl rfl)); have n1_ := Aside0.mk (hb); have n2_ := Aside0.mk (hi); clear HK; clear HB; clear HI0; have HK := n0_; have HB := n1_; have HI0 := n2_; clear n0_ n1_ n2_; (try clear hb); (try clear hb2); (try clear hk); (try clear hi)))
    go_ret
    exact ⟨_, by first | rfl | (simp [errW_none, errW_some] <;> rfl) | (simp [*, errW_none, errW_some] <;> rfl), by first | exact Kd.R_nil _ _ _ _ _ | exact Kd.N_nil _ _ _ _ _ | exact Kd.V_nil _ _ _ _ _ | exact Kd.Q_nil _ _ _ _ _ | exact Kd.S_nil _ _ _ _ _, by repeat (first | (with_reducible first | exact HI0.out | apply IsS75.alloc | apply IsS75.drewN | apply IsS75.drew | apply IsS75.set_0 | apply IsS75.set_1) | exact HI0.out), by repeat (first | (with_reducible first | exact HB.out | apply below_alloc | apply pw_below_drewN | apply below_drew1 | refine below_set ?_ (IsS75.ge HI0.out)) | exact HB.out), by repeat (first | (with_reducible first | exact HK.out | apply KeepBut.set_ | apply keep_drewN | apply keep_drew | apply keep_alloc) | exact HK.out)⟩

end Go.Proofs.Ytcflcmoblngfbaa.PK
