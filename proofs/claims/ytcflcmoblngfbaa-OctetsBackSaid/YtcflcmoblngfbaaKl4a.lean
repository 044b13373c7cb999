/- OctetsBack: the plain words of its walk. Condition: none. -/
import Derived.Test.YtcflcmoblngfbaaKz
import Derived.Test.YtcflcmoblngfbaaKu
import Derived.Test.YtcflcmoblngfbaaKe
import Derived.Test.YtcflcmoblngfbaaKs1
namespace Go.Proofs.Ytcflcmoblngfbaa.PK
open Go.RowKit Go.Proofs.YtcflcmoblngfbaaW.PrintWords Go.Proofs.YtcflcmoblngfbaaW.PrintLast Go.Proofs.YtcflcmoblngfbaaW.PrintMore
open Go.ChangeShapes Go.WideShapes
set_option linter.unusedVariables false
set_option linter.unusedSimpArgs false
abbrev ItemT : Type := Int × Int × Bool × ByteArray × List Int × List ByteArray
def itL (x : ItemT) : List Int := itemL x.1 x.2.1 x.2.2.1 x.2.2.2.1 x.2.2.2.2.1 x.2.2.2.2.2
def itBad (x : ItemT) : Bool := itemBad x.1 x.2.1 x.2.2.1 x.2.2.2.1 x.2.2.2.2.1 x.2.2.2.2.2
def itLarge (x : ItemT) : Bool := largeB x.2.2.2.1 x.2.2.2.2.1 x.2.2.2.2.2
def catI (xs : List ItemT) (i : Nat) : List Int := (xs.take i).flatMap itL
def badI (xs : List ItemT) (i : Nat) : Bool := (xs.take i).any itBad
theorem catI_step (xs : List ItemT) (i : Nat) (h : i < xs.length) : catI xs (i + 1) = catI xs i ++ itL xs[i] := flat_take itL xs i h
theorem badI_step (xs : List ItemT) (i : Nat) (h : i < xs.length) : badI xs (i + 1) = (badI xs i || itBad xs[i]) := any_take itBad xs i h
theorem all_step {α : Type} (f : α → Bool) (xs : List α) (j : Nat) (h : j < xs.length) : (xs.take (j + 1)).all f = ((xs.take j).all f && f xs[j]) := by
  rw [List.take_succ_eq_append_getElem h, List.all_append]; simp
theorem bad_of {a b : Bool} (h : a = !b) : b = !a := by cases a <;> cases b <;> simp_all
theorem badI_false {xs : List ItemT} {n : Nat} (h : true = !badI xs n) (u : Nat) (hu : u < n) (hl : u < xs.length) : itBad xs[u] = false := by
  have h2 : badI xs n = false := by cases hb : badI xs n <;> simp_all
  unfold badI at h2
  rw [List.any_eq_false] at h2
  have := h2 xs[u] (by rw [List.mem_take_iff_getElem]; exact ⟨u, by omega, rfl⟩)
  simpa using this
theorem drop_flat (xs : List ItemT) (n u : Nat) (hu : u < n) (hl : u < xs.length) : ((xs.take n).drop u).flatMap itL = itL xs[u] ++ ((xs.take n).drop (u + 1)).flatMap itL := by
  rw [List.drop_eq_getElem_cons (by rw [List.length_take]; omega), List.flatMap_cons, List.getElem_take]
theorem fits_in {n : Int} (h : -9007199254740992 ≤ n) (h2 : n ≤ 9007199254740992) : fitsN n = true := by unfold fitsN; simp; omega
theorem fits_hi {n : Int} (h : ¬ n ≤ 9007199254740992) : fitsN n = false := by unfold fitsN; simp; omega
theorem fits_lo {n : Int} (h : ¬ -9007199254740992 ≤ n) : fitsN n = false := by unfold fitsN; simp; omega
theorem textL_range (s : ByteArray) : ∀ y ∈ textL s, 0 ≤ y ∧ y ≤ 255 := by
  intro y hy
  unfold textL at hy
  split at hy
  · simp at hy
  · rcases List.mem_append.1 hy with h | h
    · exact putL_range _ y h
    · exact bytesOf_range s y h
theorem itL_range (x : ItemT) : ∀ y ∈ itL x, 0 ≤ y ∧ y ≤ 255 := by
  intro y hy
  unfold itL itemL at hy
  split at hy
  · exact putL_range _ y hy
  split at hy
  · split at hy <;> (rw [List.mem_singleton.1 hy]; omega)
  split at hy
  · exact textL_range _ y hy
  split at hy
  · unfold intsL at hy
    rcases List.mem_append.1 hy with h | h
    · exact putL_range _ y h
    · obtain ⟨z, _, hz⟩ := List.mem_flatMap.1 h
      exact putL_range _ y hz
  · unfold textsL at hy
    rcases List.mem_append.1 hy with h | h
    · exact putL_range _ y h
    · obtain ⟨z, _, hz⟩ := List.mem_flatMap.1 h
      exact textL_range _ y hz
theorem catI_range (xs : List ItemT) (i : Nat) : ∀ y ∈ catI xs i, 0 ≤ y ∧ y ≤ 255 := by
  intro y hy
  obtain ⟨z, _, hz⟩ := List.mem_flatMap.1 hy
  exact itL_range z y hz
theorem large_lens {t : ByteArray} {ns : List Int} {ts : List ByteArray} (h : largeB t ns ts = false) : t.size ≤ 2000 ∧ ns.length ≤ 200 ∧ ts.length ≤ 200 ∧ ∀ s ∈ ts, s.size ≤ 500 := by
  unfold largeB at h
  simp only [Bool.or_eq_false_iff, decide_eq_false_iff_not, Nat.not_lt, List.any_eq_false, decide_eq_true_eq] at h
  exact ⟨h.1.1.1, h.1.1.2, h.1.2, fun s hs => h.2 s hs⟩
theorem itL_len (x : ItemT) (h : itLarge x = false) : (itL x).length ≤ 14000000 := by
  obtain ⟨h1, h2, h3, _⟩ := large_lens h
  have a1 := putL_len x.2.1
  have a2 := textL_len x.2.2.2.1
  have a3 := flat_le putL 8 putL_len x.2.2.2.2.1
  have a4 := flat_le textL 65544 textL_len x.2.2.2.2.2
  have a5 := putL_len x.2.2.2.2.1.length
  have a6 := putL_len x.2.2.2.2.2.length
  unfold itL itemL
  split
  · omega
  split
  · simp
  split
  · omega
  split
  · unfold intsL; rw [List.length_append]; omega
  · unfold textsL; rw [List.length_append]; omega
theorem catI_len (xs : List ItemT) (i : Nat) (hi : i ≤ xs.length) (h : ∀ (u : Nat) (hu : u < i), itLarge (xs[u]'(by omega)) = false) : (catI xs i).length ≤ 14000000 * i := by
  induction i with
  | zero => simp [catI]
  | succ i ih =>
    rw [catI_step xs i (by omega), List.length_append]
    have h1 := ih (by omega) (fun u hu => h u (by omega))
    have h2 := itL_len xs[i] (h i (by omega))
    omega
theorem ok_back {L T N : Nat} (hL : L ≤ 280000000) (hT : T ≤ 200) (hN : N ≤ 200) : ∀ m, m ≤ L + (65544 * T + 8 * N + 70000) → m ≤ 140737488355328 := by
  intro m hm
  have hX : 65544 * T ≤ 13108800 := by omega
  have : m ≤ 280000000 + 13108800 + 1600 + 70000 := by
    refine Nat.le_trans hm ?_
    refine Nat.le_trans (Nat.add_le_add hL (Nat.add_le_add_right (Nat.add_le_add hX (Nat.mul_le_mul_left 8 hN)) _)) ?_
    decide
  exact Nat.le_trans this (by decide)
theorem item_bad0 {k n : Int} {b : Bool} {t : ByteArray} {ns : List Int} {ts : List ByteArray} (h : kindN k = 0) : itemBad k n b t ns ts = !fitsN n := by unfold itemBad; rw [if_pos h]
theorem item_bad3 {k n : Int} {b : Bool} {t : ByteArray} {ns : List Int} {ts : List ByteArray} (h : kindN k = 3) (hl : ns.length ≤ 200) : itemBad k n b t ns ts = !ns.all fitsN := by
  have e : decide ((ns.length : Int) ≤ 65536) = true := by simp; omega
  unfold itemBad badInts
  rw [h, if_neg (by decide), if_neg (by decide), if_neg (by decide), if_pos rfl, e, List.not_all_eq_any_not]
  rfl
theorem item_badE {k n : Int} {b : Bool} {t : ByteArray} {ns : List Int} {ts : List ByteArray} (h0 : kindN k ≠ 0) (h3 : kindN k ≠ 3) (hl : largeB t ns ts = false) : itemBad k n b t ns ts = false := by
  obtain ⟨l1, l2, l3, l4⟩ := large_lens hl
  unfold itemBad
  rw [if_neg h0, if_neg h3]
  split
  · rfl
  split
  · simp; omega
  · unfold badTexts
    have e : decide ((ts.length : Int) ≤ 65536) = true := by simp; omega
    rw [e, Bool.not_true, Bool.false_or, List.any_eq_false]
    intro s hs
    have := l4 s hs
    simp; omega
theorem outI_below {w w1 wr : World} {b o : Nat} {T : TypeId} {cs : Array Value} {base : Nat} {l : List Int} {bad : Bool} (h1 : Below w.heap.size w w1) (h : OutI w1 b o T cs base wr l bad) (hb : w.heap.size ≤ base) (hb2 : w.heap.size ≤ b) : Below w.heap.size w wr := h1.trans (h.2.1.below hb hb2)
theorem outI_grow {w1 : World} {b o : Nat} {T : TypeId} {cs : Array Value} {base : Nat} (w w2 : World) (l : List Int) (bad : Bool) (h : OutI w1 b o T cs base w l bad) (hb : Below w.heap.size w w2) : OutI w1 b o T cs base w2 l bad :=
  ⟨h.1.below hb, h.2.1.trans (OutK.of_below hb h.2.2), Nat.le_trans h.2.2 hb.size⟩
theorem int_blk {w : World} {A : Option Addr} {xs : List Int} (h : Kd.C (Kd.int .i64) w A xs.length xs) (a : Addr) (ha : A = some a) (hl : 0 < xs.length) : a.block < w.heap.size := by
  obtain ⟨ad, rfl, hc⟩ := C_int h 0 hl
  injection ha with ha
  subst ha
  have := World.block_lt_of_cell? w _ hc
  rwa [block_of_add] at this
theorem str_blk {w : World} {A : Option Addr} {xs : List ByteArray} (h : Kd.C Kd.string w A xs.length xs) (a : Addr) (ha : A = some a) (hl : 0 < xs.length) : a.block < w.heap.size := by
  obtain ⟨ad, rfl, hc⟩ := C_str h 0 hl
  injection ha with ha
  subst ha
  have := World.block_lt_of_cell? w _ hc
  rwa [block_of_add] at this
theorem C_item {w : World} {A : Option Addr} {xs : List ItemT} (h : kItem.C w A xs.length xs) (u : Nat) (hu : u < xs.length) :
    ∃ ad k0 n0 b0 t0 A4 c4 ns A5 c5 ts, A = some ad ∧ xs[u] = (k0, n0, b0, t0, ns, ts) ∧ Aside0 (w.cell? (ad.add (u * 6)) = some (.int .i64 k0)) ∧ Aside0 (w.cell? ⟨(ad.add (u * 6)).block, (ad.add (u * 6)).off + 1, none⟩ = some (.int .i64 n0)) ∧
      Aside0 (w.cell? ⟨(ad.add (u * 6)).block, (ad.add (u * 6)).off + 2, none⟩ = some (.bool b0)) ∧ Aside0 (w.cell? ⟨(ad.add (u * 6)).block, (ad.add (u * 6)).off + 3, none⟩ = some (.string t0)) ∧
      Aside0 (w.cell? ⟨(ad.add (u * 6)).block, (ad.add (u * 6)).off + 4, none⟩ = some (.slice A4 ns.length c4)) ∧ Aside0 (w.cell? ⟨(ad.add (u * 6)).block, (ad.add (u * 6)).off + 5, none⟩ = some (.slice A5 ts.length c5)) ∧
      Aside0 (Kd.C (Kd.int .i64) w A4 ns.length ns) ∧ ns.length ≤ c4 ∧ Aside0 (Kd.C Kd.string w A5 ts.length ts) ∧ ts.length ≤ c5 := by
  obtain ⟨ad, rfl, hcell⟩ := h.2.2 (by omega)
  obtain ⟨cs, _, hcs, hcc⟩ := hcell u xs[u] (List.getElem?_eq_getElem hu)
  obtain ⟨A4, c4, A5, c5, rfl, h4, hl4, h5, hl5⟩ := item_cells hcs
  have hs : kItem.sz = 6 := rfl
  rw [hs] at hcc
  have cc : ∀ i v, [Value.int .i64 xs[u].1, .int .i64 xs[u].2.1, .bool xs[u].2.2.1, .string xs[u].2.2.2.1, .slice A4 xs[u].2.2.2.2.1.length c4, .slice A5 xs[u].2.2.2.2.2.length c5][i]? = some v → w.cell? ((ad.add (u * 6)).add i) = some v := by
    intro i v hv
    have := hcc i v hv
    rwa [← add_of_add] at this
  exact ⟨ad, _, _, _, _, A4, c4, _, A5, c5, _, rfl, rfl, ⟨hcc 0 _ rfl⟩, ⟨cc 1 _ rfl⟩, ⟨cc 2 _ rfl⟩, ⟨cc 3 _ rfl⟩, ⟨cc 4 _ rfl⟩, ⟨cc 5 _ rfl⟩, ⟨h4⟩, hl4, ⟨h5⟩, hl5⟩
end Go.Proofs.Ytcflcmoblngfbaa.PK
