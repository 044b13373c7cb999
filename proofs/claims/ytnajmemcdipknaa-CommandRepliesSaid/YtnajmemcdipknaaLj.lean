/- Replies, the plain law: what PutReply writes of a small reply is read again. Condition: none.
Openers for structs: from the row's reading of a struct to what its fields' cells say. Condition: none.
A raw command as an argument: what its cells say. Condition: none.
An answer as an argument: what its cells say. Condition: none.
CommandReplies, the law's walk. Condition: none. -/
import Derived.Test.YtnajmemcdipknaaLh
import Derived.Test.YtnajmemcdipknaaLg
import Derived.Test.YtnajmemcdipknaaLd
import Derived.Test.YtnajmemcdipknaaProg
import Derived.Test.YtnajmemcdipknaaLi
namespace Go.Proofs.Ytnajmemcdipknaa.PK
open Go.RowKit Go.Proofs.YtnajmemcdipknaaW.PrintWords Go.Proofs.YtnajmemcdipknaaW.PrintLast Go.Proofs.YtnajmemcdipknaaW.PrintMore
set_option linter.unusedVariables false
set_option linter.unusedSimpArgs false
set_option maxRecDepth 100000
theorem putM_canon (m : Nat) : putM (canonB m) = putM m := by unfold putM; rw [canonB_idem]
theorem getM_put (m : Nat) (hm : m < 18446744073709551616) : getM (putM m) = (canonB m, 0) := by
  have hz : (putM m).size = 8 := putM_size m
  have hc := canonB_lt hm
  have hv : valM (putM m) 8 = (canonB m : Int) := by
    have h1 := beL_val (putM m) hz
    have h2 : bytesOf (putM m) = beL 8 (canonB m) := by unfold putM; exact strOf_bytes _ (beL_range _ _)
    have h3 := valM_le8 (putM m)
    exact beL8_inj _ _ h3 (by omega) (h1.trans h2)
  unfold getM
  rw [if_neg (by omega), if_neg (by omega), hv]
  simp only [Int.toNat_natCast]
  rw [if_pos (canonB_idem m)]
theorem badMs_put (ms : List Nat) (h : ∀ x ∈ ms, x < 18446744073709551616) : badMs (ms.map putM) = false := by
  unfold badMs
  rw [List.any_eq_false]
  intro s hs
  obtain ⟨y, hy, rfl⟩ := List.mem_map.1 hs
  rw [getM_put y (h y hy)]
  simp
theorem valMs_canon (ms : List Nat) (h : ∀ x ∈ ms, x < 18446744073709551616) : valMs (ms.map putM) = ms.map canonB := by
  unfold valMs
  rw [List.map_map]
  apply List.map_congr_left
  intro y hy
  simp only [Function.comp_apply]
  rw [getM_put y (h y hy)]
theorem getR_nil : (getR ⟨#[]⟩).2 ≠ 0 := by decide +kernel
theorem bad_small {code line col cnt : Int} {tx : ByteArray} {ts : List ByteArray} {ms : List Nat} (hx : tx.size ≤ 2000) (ht : ts.length ≤ 50) (hs : ∀ s ∈ ts, s.size ≤ 500) (hl : ms.length ≤ 50) : repBad code line col cnt tx ts ms = !(fitsN code && fitsN line && fitsN col && fitsN cnt) := by
  unfold repBad
  rw [badMarks ms hl, badTexts_ok (by omega) (fun s h => by have := hs s h; omega), show decide (65536 < tx.size) = false by simp; omega]
  cases fitsN code <;> cases fitsN line <;> cases fitsN col <;> cases fitsN cnt <;> rfl
theorem get_put_rep (code line col cnt : Int) (tx : ByteArray) (ts : List ByteArray) (ms : List Nat) (hx : tx.size ≤ 2000) (ht : ts.length ≤ 50) (hs : ∀ s ∈ ts, s.size ≤ 500) (hl : ms.length ≤ 50) (hm : ∀ x ∈ ms, x < 18446744073709551616) (h : repBad code line col cnt tx ts ms = false) :
    getR (putR code line col cnt tx ts ms) = if code < 0 ∨ 20 < code then (zeroR, 2) else (⟨code, line, col, cnt, tx, ts, ms.map canonB⟩, 0) := by
  have hf := h
  rw [bad_small hx ht hs hl] at hf
  simp only [Bool.not_eq_false', Bool.and_eq_true] at hf
  obtain ⟨⟨⟨f1, f2⟩, f3⟩, f4⟩ := hf
  obtain ⟨s, hse⟩ : ∃ s, putR code line col cnt tx ts ms = s := ⟨_, rfl⟩
  have hb : bytesOf s = putL code ++ (putL line ++ (putL col ++ (putL cnt ++ (textL tx ++ (textsL ts ++ (textsL (ms.map putM) ++ [])))))) := by
    rw [← hse]
    unfold putR
    rw [if_neg (by omega), if_neg (by simp [h]), strOf_bytes _ (repL_rng _ _ _ _ _ _ _)]
    simp only [repL, List.append_assoc, List.append_nil, List.nil_append]
  obtain ⟨s0, h0, b0⟩ := rd_int code (fits_rng f1) s _ hb
  obtain ⟨s1, h1, b1⟩ := rd_int line (fits_rng f2) s0 _ b0
  obtain ⟨s2, h2, b2⟩ := rd_int col (fits_rng f3) s1 _ b1
  obtain ⟨s3, h3, b3⟩ := rd_int cnt (fits_rng f4) s2 _ b2
  obtain ⟨s4, h4, b4⟩ := rd_text tx (by omega) s3 _ b3
  obtain ⟨s5, h5, b5⟩ := rd_textsN 4096 ts (fun x hx => by have := hs x hx; omega) (by omega) (by omega) s4 _ b4
  obtain ⟨s6, h6, b6⟩ := rd_textsN 4096 (ms.map putM) (fun x hx => by obtain ⟨y, _, rfl⟩ := List.mem_map.1 hx; rw [putM_size]; omega) (by rw [List.length_map]; omega) (by rw [List.length_map]; omega) s5 _ b5
  have e0 : q0 s = (code, s0, 0) := h0
  have e1 : q1 s = (line, s1, 0) := by unfold q1; rw [e0]; exact h1
  have e2 : q2 s = (col, s2, 0) := by unfold q2; rw [e1]; exact h2
  have e3 : q3 s = (cnt, s3, 0) := by unfold q3; rw [e2]; exact h3
  have e4 : q4 s = (tx, s4, 0) := by unfold q4; rw [e3]; exact h4
  have e5 : q5 s = (ts, s5, 0) := by unfold q5; rw [e4]; exact h5
  have e6 : q6 s = (ms.map putM, s6, 0) := by unfold q6; rw [e5]; exact h6
  have hz : s6.size = 0 := by rw [← bytesOf_len, b6]; rfl
  rw [hse]
  unfold getR
  rw [e6, e0, e1, e2, e3, e4, e5, if_neg (by simp)]
  by_cases hc : code < 0 ∨ 20 < code
  · rw [if_pos hc, if_pos hc]
  · rw [if_neg hc, if_neg hc, if_neg (by simp [badMs_put ms hm]), if_pos hz, valMs_canon ms hm]
theorem alikeV_canon (code line col cnt : Int) (tx : ByteArray) (ts : List ByteArray) (ms : List Nat) : alikeV ⟨code, line, col, cnt, tx, ts, ms.map canonB⟩ ⟨code, line, col, cnt, tx, ts, ms⟩ = true := by
  simp [alikeV, Function.comp_def, putM_canon]
end Go.Proofs.Ytnajmemcdipknaa.PK
namespace Go.Proofs.Ytnajmemcdipknaa.PK
open Go.RowKit Go.Proofs.YtnajmemcdipknaaW.PrintWords Go.Proofs.YtnajmemcdipknaaW.PrintLast Go.Proofs.YtnajmemcdipknaaW.PrintMore
open Go.ChangeShapes Go.WideShapes
set_option linter.unusedVariables false
set_option linter.unusedSimpArgs false
set_option maxRecDepth 100000
/-- The fields from field i on, which begins at cell o. -/
def OpensF {α : Type} (P : Program) (W : World) (fs : Array Field) (i o tot : Nat) (d : Kd α) (wf : α → Prop) : Prop :=
  ∀ (H : Type) (enc : TypeId × Value → H) (base : Nat) (spare : Nat → Bool) (held : Bool) (fuel : Nat) (cs : List Value), cs.length = tot →
    (∀ (j : Nat) (f : Field), fs[j]? = some f → ∃ x, DataW.trod enc P W base spare held fuel f.type ((cs.drop f.offset).take (P.cellsOf f.type)) = some x) → ∃ y, d.K W y (cs.drop o) ∧ wf y
theorem opensF_last {α : Type} {P : Program} {W : World} {fs : Array Field} {i o tot : Nat} {f : Field} {d : Kd α} {wf : α → Prop} (hf : fs[i]? = some f) (ho : f.offset = o) (h : Opens P W f.type d wf) (ht : o + P.cellsOf f.type = tot) : OpensF P W fs i o tot d wf := by
  intro H enc base spare held fuel cs hl hx
  obtain ⟨x, hx⟩ := hx i f hf
  obtain ⟨y, hy, hw⟩ := h H enc base spare held fuel _ x hx
  rw [ho, List.take_of_length_le (by rw [List.length_drop]; omega)] at hy
  exact ⟨y, hy, hw⟩
theorem opensF_more {α β : Type} {P : Program} {W : World} {fs : Array Field} {i o tot : Nat} {f : Field} {d : Kd α} {wf : α → Prop} {d' : Kd β} {wf' : β → Prop} (hf : fs[i]? = some f) (ho : f.offset = o) (h : Opens P W f.type d wf) (hn : OpensF P W fs (i + 1) (o + P.cellsOf f.type) tot d' wf') :
    OpensF P W fs i o tot (Kd.pair d d') (fun y => wf y.1 ∧ wf' y.2) := by
  intro H enc base spare held fuel cs hl hx
  obtain ⟨y', hy', hw'⟩ := hn H enc base spare held fuel cs hl hx
  obtain ⟨x, hx⟩ := hx i f hf
  obtain ⟨y, hy, hw⟩ := h H enc base spare held fuel _ x hx
  rw [ho] at hy
  refine ⟨(y, y'), ⟨_, _, ?_, hy, hy'⟩, hw, hw'⟩
  rw [← List.drop_drop]
  exact (List.take_append_drop _ _).symm
theorem opens_struct {α : Type} {P : Program} {W : World} {T : TypeId} {fs : Array Field} {d : Kd α} {wf : α → Prop} (ht : P.underlying T = some (.struct fs)) (h : OpensF P W fs 0 0 (P.cellsOf T) d wf) : Opens P W T d wf := by
  intro H enc base spare held fuel cs x hx
  obtain ⟨xs, n, _, _, hl, hxl, hf⟩ := DataW.trod_struct ht hx
  obtain ⟨y, hy, hw⟩ := h H enc base spare held n cs hl (fun j f hj => by
    have hj' : j < xs.length := by rw [hxl]; exact (Array.getElem?_eq_some_iff.1 hj).1
    exact ⟨_, (hf j f hj).trans (List.getElem?_eq_getElem hj')⟩)
  exact ⟨y, hy, hw⟩
/-- A struct argument, opened. -/
theorem arg_struct {α : Type} {H : Type} {enc : TypeId × Value → H} {P : Program} {W : World} {T : TypeId} {d : Kd α} {wf : α → Prop} {base : Nat} {spare : Nat → Bool} {held : Bool} {cs : Array Value} {dt : DataW H} {ps : List MemPlace}
    (ho : Opens P W T d wf) (h : DataW.Trod enc P W base spare held T (.agg cs) dt ps) : ∃ y, d.K W y cs.toList ∧ wf y := by
  obtain ⟨fuel, hf⟩ := h
  exact ho H enc base spare held fuel _ _ hf
end Go.Proofs.Ytnajmemcdipknaa.PK
namespace Go.Proofs.Ytnajmemcdipknaa.PK
open Go.RowKit Go.Proofs.YtnajmemcdipknaaW.PrintWords Go.Proofs.YtnajmemcdipknaaW.PrintLast Go.Proofs.YtnajmemcdipknaaW.PrintMore
open Go.ChangeShapes Go.WideShapes
set_option linter.unusedVariables false
set_option linter.unusedSimpArgs false
set_option maxRecDepth 100000
def I64 (n : Int) : Prop := -9223372036854775808 ≤ n ∧ n ≤ 9223372036854775807
end Go.Proofs.Ytnajmemcdipknaa.PK
namespace Go.Proofs.Ytnajmemcdipknaa.PK
open Go.RowKit Go.Proofs.YtnajmemcdipknaaW.PrintWords Go.Proofs.YtnajmemcdipknaaW.PrintLast Go.Proofs.YtnajmemcdipknaaW.PrintMore
open Go.ChangeShapes Go.WideShapes
set_option linter.unusedVariables false
set_option linter.unusedSimpArgs false
set_option maxRecDepth 100000
def kAns : Kd (Int × Int × Int × Int × ByteArray × List ByteArray × List Int) := Kd.pair (Kd.int .i64) (Kd.pair (Kd.int .i64) (Kd.pair (Kd.int .i64) (Kd.pair (Kd.int .i64) (Kd.pair Kd.string (Kd.pair (Kd.slice 9 Kd.string) (Kd.slice 138 (Kd.int .u64)))))))
theorem opens_ans (W : World) : Opens Try.prog W 81 kAns (fun y => (Lit.int .i64 y.1).wf = true ∧ (Lit.int .i64 y.2.1).wf = true ∧ (Lit.int .i64 y.2.2.1).wf = true ∧ (Lit.int .i64 y.2.2.2.1).wf = true ∧ y.2.2.2.2.1.size ≤ 9223372036854775807 ∧ (y.2.2.2.2.2.1.length ≤ 9223372036854775807 ∧ ∀ x ∈ y.2.2.2.2.2.1, x.size ≤ 9223372036854775807) ∧ (y.2.2.2.2.2.2.length ≤ 9223372036854775807 ∧ ∀ x ∈ y.2.2.2.2.2.2, (Lit.int .u64 x).wf = true)) :=
  opens_struct Try.underlying81 (opensF_more (f := ⟨"Code", 3, 0, false, "", "", 0⟩) rfl rfl (opens_int Try.underlying3)
    (opensF_more (f := ⟨"Line", 3, 1, false, "", "", 8⟩) rfl (by kernel_rfl) (opens_int Try.underlying3)
    (opensF_more (f := ⟨"Col", 3, 2, false, "", "", 16⟩) rfl (by kernel_rfl) (opens_int Try.underlying3)
    (opensF_more (f := ⟨"Count", 3, 3, false, "", "", 24⟩) rfl (by kernel_rfl) (opens_int Try.underlying3)
    (opensF_more (f := ⟨"Text", 9, 4, false, "", "", 32⟩) rfl (by kernel_rfl) (opens_string Try.underlying9)
    (opensF_more (f := ⟨"Texts", 22, 5, false, "", "", 48⟩) rfl (by kernel_rfl) (opens_slice Try.underlying22 (by kernel_rfl) (opens_string Try.underlying9))
    (opensF_last (f := ⟨"Marks", 79, 6, false, "", "", 72⟩) rfl (by kernel_rfl) (opens_slice Try.underlying79 (by kernel_rfl) (opens_int Try.underlying138)) (by kernel_rfl))))))))
theorem u64_wf {n : Int} (h : (Lit.int .u64 n).wf = true) : 0 ≤ n ∧ n < 18446744073709551616 := by
  have := (Lit.wf_int_iff .u64 n).mp h
  have h2 : 0 ≤ n ∧ n ≤ 18446744073709551615 := by simpa [IntKind.min, IntKind.max, IntKind.signed, IntKind.bits] using this
  omega
theorem arg_ans {H : Type} {enc : TypeId × Value → H} {W : World} {base : Nat} {spare : Nat → Bool} {held : Bool} {cs : Array Value} {dt : DataW H} {ps : List MemPlace}
    (h : DataW.Trod enc Try.prog W base spare held 81 (.agg cs) dt ps) : ∃ code line col cnt tx A cap ts U capu us, cs = #[.int .i64 code, .int .i64 line, .int .i64 col, .int .i64 cnt, .string tx, .slice A (ts : List ByteArray).length cap, .slice U (us : List Int).length capu] ∧
    Kd.C Kd.string W A ts.length ts ∧ ts.length ≤ cap ∧ Kd.C (Kd.int .u64) W U us.length us ∧ us.length ≤ capu ∧ tx.size ≤ 9223372036854775807 ∧ (∀ x ∈ ts, x.size ≤ 9223372036854775807) ∧ (∀ u ∈ us, 0 ≤ u ∧ u < 18446744073709551616) ∧ I64 code ∧ I64 line ∧ I64 col ∧ I64 cnt := by
  obtain ⟨⟨code, line, col, cnt, tx, ts, us⟩, hy, hw⟩ := arg_struct (opens_ans W) h
  obtain ⟨q0, r0, h0', h0, q1, r1, rfl, h1, q2, r2, rfl, h2, q3, r3, rfl, h3, q4, r4, rfl, h4, q5, r5, rfl, ⟨A5, c5, h5, l5, k5⟩, ⟨A6, c6, h6, l6, k6⟩⟩ := hy
  have h0 : q0 = [.int .i64 code] := h0
  have h1 : q1 = [.int .i64 line] := h1
  have h2 : q2 = [.int .i64 col] := h2
  have h3 : q3 = [.int .i64 cnt] := h3
  have h4 : q4 = [.string tx] := h4
  subst h0; subst h1; subst h2; subst h3; subst h4; subst h5; subst h6
  obtain ⟨w0, w1, w2, w3, w4, ⟨_, w5⟩, _, w6⟩ := hw
  exact ⟨code, line, col, cnt, tx, A5, c5, ts, A6, c6, us, by rw [← Array.toList_inj, h0']; rfl, k5, l5, k6, l6, w4, w5, fun u hu => u64_wf (w6 u hu), i64_wf w0, i64_wf w1, i64_wf w2, i64_wf w3⟩
end Go.Proofs.Ytnajmemcdipknaa.PK
namespace Go.Proofs.Ytnajmemcdipknaa.PK
open Go.RowKit Go.Proofs.YtnajmemcdipknaaW.PrintWords Go.Proofs.YtnajmemcdipknaaW.PrintLast Go.Proofs.YtnajmemcdipknaaW.PrintMore
open Go.ChangeShapes Go.WideShapes
set_option linter.unusedVariables false
set_option linter.unusedSimpArgs false
set_option maxRecDepth 100000
theorem c28 {W : World} {ga : Nat} {ta : TypeId} {a0 a1 a2 a3 a4 a5 a6 : Value} {gb : Nat} {tb : TypeId} {b0 b1 b2 b3 b4 b5 b6 : Value} {gc : Nat} {tc : TypeId} {c0 c1 c2 c3 c4 c5 c6 : Value} {gd : Nat} {td : TypeId} {d0 d1 d2 d3 d4 d5 d6 : Value} (ha : W.heap[ga]? = some (.cells #[a0, a1, a2, a3, a4, a5, a6] ta (0, 0))) (hb : W.heap[gb]? = some (.cells #[b0, b1, b2, b3, b4, b5, b6] tb (0, 0))) (hc : W.heap[gc]? = some (.cells #[c0, c1, c2, c3, c4, c5, c6] tc (0, 0))) (hd : W.heap[gd]? = some (.cells #[d0, d1, d2, d3, d4, d5, d6] td (0, 0))) : W.cell? ⟨ga, 0, none⟩ = some a0 ∧ W.cell? ⟨ga, 1, none⟩ = some a1 ∧ W.cell? ⟨ga, 2, none⟩ = some a2 ∧ W.cell? ⟨ga, 3, none⟩ = some a3 ∧ W.cell? ⟨ga, 4, none⟩ = some a4 ∧ W.cell? ⟨ga, 5, none⟩ = some a5 ∧ W.cell? ⟨ga, 6, none⟩ = some a6 ∧ W.cell? ⟨gb, 0, none⟩ = some b0 ∧ W.cell? ⟨gb, 1, none⟩ = some b1 ∧ W.cell? ⟨gb, 2, none⟩ = some b2 ∧ W.cell? ⟨gb, 3, none⟩ = some b3 ∧ W.cell? ⟨gb, 4, none⟩ = some b4 ∧ W.cell? ⟨gb, 5, none⟩ = some b5 ∧ W.cell? ⟨gb, 6, none⟩ = some b6 ∧ W.cell? ⟨gc, 0, none⟩ = some c0 ∧ W.cell? ⟨gc, 1, none⟩ = some c1 ∧ W.cell? ⟨gc, 2, none⟩ = some c2 ∧ W.cell? ⟨gc, 3, none⟩ = some c3 ∧ W.cell? ⟨gc, 4, none⟩ = some c4 ∧ W.cell? ⟨gc, 5, none⟩ = some c5 ∧ W.cell? ⟨gc, 6, none⟩ = some c6 ∧ W.cell? ⟨gd, 0, none⟩ = some d0 ∧ W.cell? ⟨gd, 1, none⟩ = some d1 ∧ W.cell? ⟨gd, 2, none⟩ = some d2 ∧ W.cell? ⟨gd, 3, none⟩ = some d3 ∧ W.cell? ⟨gd, 4, none⟩ = some d4 ∧ W.cell? ⟨gd, 5, none⟩ = some d5 ∧ W.cell? ⟨gd, 6, none⟩ = some d6 :=
  ⟨(blk_cell ha 0).trans rfl, (blk_cell ha 1).trans rfl, (blk_cell ha 2).trans rfl, (blk_cell ha 3).trans rfl, (blk_cell ha 4).trans rfl, (blk_cell ha 5).trans rfl, (blk_cell ha 6).trans rfl, (blk_cell hb 0).trans rfl, (blk_cell hb 1).trans rfl, (blk_cell hb 2).trans rfl, (blk_cell hb 3).trans rfl, (blk_cell hb 4).trans rfl, (blk_cell hb 5).trans rfl, (blk_cell hb 6).trans rfl, (blk_cell hc 0).trans rfl, (blk_cell hc 1).trans rfl, (blk_cell hc 2).trans rfl, (blk_cell hc 3).trans rfl, (blk_cell hc 4).trans rfl, (blk_cell hc 5).trans rfl, (blk_cell hc 6).trans rfl, (blk_cell hd 0).trans rfl, (blk_cell hd 1).trans rfl, (blk_cell hd 2).trans rfl, (blk_cell hd 3).trans rfl, (blk_cell hd 4).trans rfl, (blk_cell hd 5).trans rfl, (blk_cell hd 6).trans rfl⟩
/-- The two boxes of one answer, and what they hold. -/
structure Two (W : World) (g : Nat) (cs : Array Value) (B : Option Addr) (X : List ByteArray) (M : Option Addr) (Y : List Nat) : Prop where
  a : W.heap[g]? = some (.cells cs 44 (0, 0))
  b : W.heap[g + 1]? = some (.cells cs 48 (0, 0))
  t : Kd.C Kd.string W B X.length X
  m : Kd.C kF W M Y.length Y
theorem Two.move {W W' : World} {g : Nat} {cs : Array Value} {B : Option Addr} {X : List ByteArray} {M : Option Addr} {Y : List Nat} (h : Two W g cs B X M Y) (hb : Below W.heap.size W W') : Two W' g cs B X M Y :=
  ⟨(hb.block g (blk_lt h.a)).trans h.a, (hb.block (g + 1) (blk_lt h.b)).trans h.b, Kd.C_below h.t hb, Kd.C_below h.m hb⟩
theorem Two.new {W : World} {cs : Array Value} {B : Option Addr} {X : List ByteArray} {M : Option Addr} {Y : List Nat} (ht : Kd.C Kd.string W B X.length X) (hm : Kd.C kF W M Y.length Y) : Two ((W.alloc (.cells cs 44)).alloc (.cells cs 48)) W.heap.size cs B X M Y :=
  ⟨(heap_alloc_old _ _ (by simp)).trans (heap_new' rfl), heap_new' (by simp), Kd.C_alloc (Kd.C_alloc ht _) _, Kd.C_alloc (Kd.C_alloc hm _) _⟩
theorem toldR_openz {er : Int} {w w' : World} {e : Ending} (h : ToldR zeroR er w e w') : ∃ A cap M capm, e = .returned (.tuple #[.agg #[.int .i64 0, .int .i64 0, .int .i64 0, .int .i64 0, .string ⟨#[]⟩, .slice A 0 cap, .slice M 0 capm], .int .i64 er]) ∧ Below w.heap.size w w' := by
  obtain ⟨A, cap, M, capm, he, _, _, _, _, hb⟩ := h
  exact ⟨A, cap, M, capm, he, hb⟩
theorem toldR_open {code line col cnt : Int} {tx : ByteArray} {ts : List ByteArray} {ms : List Nat} {er : Int} {w w' : World} {e : Ending} (h : ToldR ⟨code, line, col, cnt, tx, ts, ms⟩ er w e w') : ∃ A cap M capm, e = .returned (.tuple #[.agg #[.int .i64 code, .int .i64 line, .int .i64 col, .int .i64 cnt, .string tx, .slice A ts.length cap, .slice M ms.length capm], .int .i64 er]) ∧ Kd.C Kd.string w' A ts.length ts ∧ ts.length ≤ cap ∧ Kd.C kF w' M ms.length ms ∧ Below w.heap.size w w' := by
  obtain ⟨A, cap, M, capm, he, h1, h2, h3, _, hb⟩ := h
  exact ⟨A, cap, M, capm, he, h1, h2, h3, hb⟩
theorem cutS_le (n : Nat) (s : ByteArray) : (cutS n s).size ≤ n := by
  unfold cutS; split
  · assumption
  · rw [ByteArray.size_extract]; omega
theorem ansT_len (ts : List ByteArray) : (ansT ts).length ≤ 50 := by unfold ansT; rw [List.length_map, List.length_take]; omega
theorem ansT_le (ts : List ByteArray) : ∀ s ∈ ansT ts, s.size ≤ 500 := fun s hs => by
  unfold ansT at hs
  obtain ⟨y, _, rfl⟩ := List.mem_map.1 hs
  exact cutS_le _ _
theorem ansM_len (us : List Int) : (ansM us).length ≤ 50 := by unfold ansM; rw [List.length_map, List.length_take]; omega
theorem ansM_lt {us : List Int} (h : ∀ u ∈ us, 0 ≤ u ∧ u < 18446744073709551616) : ∀ y ∈ ansM us, y < 18446744073709551616 := fun y hy => by
  unfold ansM at hy
  obtain ⟨u, hu, rfl⟩ := List.mem_map.1 hy
  have := h u (List.mem_of_mem_take hu)
  omega
theorem putR_pos {code line col cnt : Int} {tx : ByteArray} {ts : List ByteArray} {ms : List Nat} (h : ¬ (4096 < ts.length ∨ 4096 < ms.length)) (hb : repBad code line col cnt tx ts ms = false) : (putR code line col cnt tx ts ms).size ≠ 0 := by
  unfold putR
  have hf := hb
  unfold repBad at hf
  simp only [Bool.or_eq_false_iff, Bool.not_eq_false'] at hf
  have f1 := fits_rng hf.1.1.1.1.1.1.2
  rw [if_neg h, if_neg (by simp [hb]), strOfNums_size]
  obtain ⟨sg, m, K, hp, _⟩ := putL_form code (by omega)
  unfold repL
  rw [hp]
  simp
set_option maxHeartbeats 12800000 in
theorem replies21_calls (code line col cnt : Int) (tx : ByteArray) (A : Option Addr) (cap : Nat) (ts : List ByteArray) (U : Option Addr) (capu : Nat) (us : List Int) (code2 line2 col2 cnt2 : Int) (tx2 : ByteArray) (A2 : Option Addr) (cap2 : Nat) (ts2 : List ByteArray) (U2 : Option Addr) (capu2 : Nat) (us2 : List Int) (w : World) (hA : Kd.C Kd.string w A ts.length ts) (hca : ts.length ≤ cap) (hU : Kd.C (Kd.int .u64) w U us.length us) (hx : tx.size ≤ 9223372036854775807) (hs : ∀ s ∈ ts, s.size ≤ 9223372036854775807) (hus : ∀ u ∈ us, 0 ≤ u ∧ u < 18446744073709551616) (hn : I64 code ∧ I64 line ∧ I64 col ∧ I64 cnt) (hA2 : Kd.C Kd.string w A2 ts2.length ts2) (hca2 : ts2.length ≤ cap2) (hU2 : Kd.C (Kd.int .u64) w U2 us2.length us2) (hx2 : tx2.size ≤ 9223372036854775807) (hs2 : ∀ s ∈ ts2, s.size ≤ 9223372036854775807) (hus2 : ∀ u ∈ us2, 0 ≤ u ∧ u < 18446744073709551616) (hn2 : I64 code2 ∧ I64 line2 ∧ I64 col2 ∧ I64 cnt2) :
    Calls Try.prog 9 #[.agg #[.int .i64 code, .int .i64 line, .int .i64 col, .int .i64 cnt, .string tx, .slice A ts.length cap, .slice U us.length capu], .agg #[.int .i64 code2, .int .i64 line2, .int .i64 col2, .int .i64 cnt2, .string tx2, .slice A2 ts2.length cap2, .slice U2 us2.length capu2]] w fun e w' => e = .returned (.bool true) ∧ Below w.heap.size w w' := by
  have hu := Try.underlying44
  have hu2 := Try.underlying48
  have hu3 := Try.underlying81
  have HA := Aside0.mk hA
  have HCA := Aside0.mk hca
  have HU := Aside0.mk hU
  have HSX := Aside0.mk hx
  have HS := Aside0.mk hs
  have HUS := Aside0.mk hus
  have HN : Aside0 ((-9223372036854775808 ≤ code ∧ code ≤ 9223372036854775807) ∧ (-9223372036854775808 ≤ line ∧ line ≤ 9223372036854775807) ∧ (-9223372036854775808 ≤ col ∧ col ≤ 9223372036854775807) ∧ (-9223372036854775808 ≤ cnt ∧ cnt ≤ 9223372036854775807)) := ⟨hn⟩
  have HA2 := Aside0.mk hA2
  have HCA2 := Aside0.mk hca2
  have HU2 := Aside0.mk hU2
  have HSX2 := Aside0.mk hx2
  have HS2 := Aside0.mk hs2
  have HUS2 := Aside0.mk hus2
  have HN2 := Aside0.mk hn2
  clear hA hca hU hx hs hus hn hA2 hca2 hU2 hx2 hs2 hus2 hn2
  obtain ⟨T, hT⟩ : ∃ T, cutS 2000 tx = T := ⟨_, rfl⟩
  obtain ⟨X, hX⟩ : ∃ X, ansT ts = X := ⟨_, rfl⟩
  obtain ⟨Y, hY⟩ : ∃ Y, ansM us = Y := ⟨_, rfl⟩
  obtain ⟨T2, hT2⟩ : ∃ T, cutS 2000 tx2 = T := ⟨_, rfl⟩
  obtain ⟨X2, hX2⟩ : ∃ X, ansT ts2 = X := ⟨_, rfl⟩
  obtain ⟨Y2, hY2⟩ : ∃ Y, ansM us2 = Y := ⟨_, rfl⟩
  have hr1 := fun (w : World) (h1 : Kd.C Kd.string w A ts.length ts) (h2 : Kd.C (Kd.int .u64) w U us.length us) => replies_calls code line col cnt tx A cap ts U capu us w h1 HCA.out h2 HSX.out HS.out HUS.out
  have hr2 := fun (w : World) (h1 : Kd.C Kd.string w A2 ts2.length ts2) (h2 : Kd.C (Kd.int .u64) w U2 us2.length us2) => replies_calls code2 line2 col2 cnt2 tx2 A2 cap2 ts2 U2 capu2 us2 w h1 HCA2.out h2 HSX2.out HS2.out HUS2.out
  rw [hT, hX, hY] at hr1
  rw [hT2, hX2, hY2] at hr2
  have HR1 := Aside0.mk hr1
  have HR2 := Aside0.mk hr2
  have HZT : Aside0 (T.size ≤ 2000) := ⟨by rw [← hT]; exact cutS_le _ _⟩
  have HZX : Aside0 (X.length ≤ 50) := ⟨by rw [← hX]; exact ansT_len _⟩
  have HZS : Aside0 (∀ s ∈ X, s.size ≤ 500) := ⟨by rw [← hX]; exact ansT_le _⟩
  have HZY : Aside0 (Y.length ≤ 50) := ⟨by rw [← hY]; exact ansM_len _⟩
  have HYM : Aside0 (∀ y ∈ Y, y < 18446744073709551616) := ⟨by rw [← hY]; exact ansM_lt HUS.out⟩
  have HYM2 : Aside0 (∀ y ∈ Y2, y < 18446744073709551616) := ⟨by rw [← hY2]; exact ansM_lt HUS2.out⟩
  obtain ⟨S, hS⟩ : ∃ S, putR code line col cnt T X Y = S := ⟨_, rfl⟩
  have HSE := Aside0.mk hS
  obtain ⟨al, hal⟩ : ∃ al, alikeV ⟨code, line, col, cnt, T, X, Y⟩ ⟨code2, line2, col2, cnt2, T2, X2, Y2⟩ = al := ⟨_, rfl⟩
  have HAL := Aside0.mk hal
  clear hr1 hr2 hT hX hY hT2 hX2 hY2 hS hal HCA HSX HS HUS HCA2 HSX2 HS2 HUS2 HN2
  have HX0 : Aside0 ((((w.alloc (.cells #[.int .i64 code, .int .i64 line, .int .i64 col, .int .i64 cnt, .string tx, .slice A ts.length cap, .slice U us.length capu] 81)).alloc (.cells #[.int .i64 code2, .int .i64 line2, .int .i64 col2, .int .i64 cnt2, .string tx2, .slice A2 ts2.length cap2, .slice U2 us2.length capu2] 81))).heap[w.heap.size]? = some (.cells #[.int .i64 code, .int .i64 line, .int .i64 col, .int .i64 cnt, .string tx, .slice A ts.length cap, .slice U us.length capu] 81 (0, 0))) := ⟨(heap_alloc_old _ _ (by simp)).trans (heap_new' rfl)⟩
  have HY0 : Aside0 ((((w.alloc (.cells #[.int .i64 code, .int .i64 line, .int .i64 col, .int .i64 cnt, .string tx, .slice A ts.length cap, .slice U us.length capu] 81)).alloc (.cells #[.int .i64 code2, .int .i64 line2, .int .i64 col2, .int .i64 cnt2, .string tx2, .slice A2 ts2.length cap2, .slice U2 us2.length capu2] 81))).heap[w.heap.size + 1]? = some (.cells #[.int .i64 code2, .int .i64 line2, .int .i64 col2, .int .i64 cnt2, .string tx2, .slice A2 ts2.length cap2, .slice U2 us2.length capu2] 81 (0, 0))) := ⟨heap_new' (by simp)⟩
  have HB0 := Aside0.mk (below_alloc (below_alloc (Below.refl w.heap.size w) (.cells #[.int .i64 code, .int .i64 line, .int .i64 col, .int .i64 cnt, .string tx, .slice A ts.length cap, .slice U us.length capu] 81)) (.cells #[.int .i64 code2, .int .i64 line2, .int .i64 col2, .int .i64 cnt2, .string tx2, .slice A2 ts2.length cap2, .slice U2 us2.length capu2] 81))
  go_enter Try.func9, Try.ntmps9
  go_wp2_with fail
  refine (speaks21_calls _).mono ?_
  rintro e w1 ⟨rfl, hb1⟩
  have HX1 := Aside0.mk ((hb1.block w.heap.size (blk_lt HX0.out)).trans HX0.out)
  have HY1 := Aside0.mk ((hb1.block (w.heap.size + 1) (blk_lt HY0.out)).trans HY0.out)
  have HB1 := Aside0.mk (below_then HB0.out HB0.out.size hb1)
  clear hb1
  have z1_0 : w1.cell? ⟨w.heap.size, 0, none⟩ = some (.int .i64 code) := (blk_cell HX1.out 0).trans rfl
  have z1_1 : w1.cell? ⟨w.heap.size, 1, none⟩ = some (.int .i64 line) := (blk_cell HX1.out 1).trans rfl
  have z1_2 : w1.cell? ⟨w.heap.size, 2, none⟩ = some (.int .i64 col) := (blk_cell HX1.out 2).trans rfl
  have z1_3 : w1.cell? ⟨w.heap.size, 3, none⟩ = some (.int .i64 cnt) := (blk_cell HX1.out 3).trans rfl
  have z1_4 : w1.cell? ⟨w.heap.size, 4, none⟩ = some (.string tx) := (blk_cell HX1.out 4).trans rfl
  have z1_5 : w1.cell? ⟨w.heap.size, 5, none⟩ = some (.slice A ts.length cap) := (blk_cell HX1.out 5).trans rfl
  have z1_6 : w1.cell? ⟨w.heap.size, 6, none⟩ = some (.slice U us.length capu) := (blk_cell HX1.out 6).trans rfl
  go_wp2_with fail
  refine (HR1.out _ (Kd.C_below HA.out HB1.out) (Kd.C_below HU.out HB1.out)).mono ?_
  rintro e w2 ⟨B, capb, M, capm, rfl, hB, hcb, hM, hcm, hb2⟩
  have HY2 := Aside0.mk ((hb2.block (w.heap.size + 1) (blk_lt HY1.out)).trans HY1.out)
  have HB2 := Aside0.mk (below_then HB1.out HB1.out.size hb2)
  have P3 : Aside0 (Two ((w2.alloc (.cells #[.int .i64 code, .int .i64 line, .int .i64 col, .int .i64 cnt, .string T, .slice B X.length capb, .slice M Y.length capm] 44)).alloc (.cells #[.int .i64 code, .int .i64 line, .int .i64 col, .int .i64 cnt, .string T, .slice B X.length capb, .slice M Y.length capm] 48)) w2.heap.size #[.int .i64 code, .int .i64 line, .int .i64 col, .int .i64 cnt, .string T, .slice B X.length capb, .slice M Y.length capm] B X M Y) := ⟨Two.new hB hM⟩
  have HCB := Aside0.mk hcb
  have HB3 := Aside0.mk (below_alloc (below_alloc HB2.out (.cells #[.int .i64 code, .int .i64 line, .int .i64 col, .int .i64 cnt, .string T, .slice B X.length capb, .slice M Y.length capm] 44)) (.cells #[.int .i64 code, .int .i64 line, .int .i64 col, .int .i64 cnt, .string T, .slice B X.length capb, .slice M Y.length capm] 48))
  clear hB hcb hM hcm hb2
  have HY3 : Aside0 ((((w2.alloc (.cells #[.int .i64 code, .int .i64 line, .int .i64 col, .int .i64 cnt, .string T, .slice B X.length capb, .slice M Y.length capm] 44)).alloc (.cells #[.int .i64 code, .int .i64 line, .int .i64 col, .int .i64 cnt, .string T, .slice B X.length capb, .slice M Y.length capm] 48))).heap[w.heap.size + 1]? = some (.cells #[.int .i64 code2, .int .i64 line2, .int .i64 col2, .int .i64 cnt2, .string tx2, .slice A2 ts2.length cap2, .slice U2 us2.length capu2] 81 (0, 0))) := ⟨((below_alloc (below_alloc (Below.refl w2.heap.size w2) (.cells #[.int .i64 code, .int .i64 line, .int .i64 col, .int .i64 cnt, .string T, .slice B X.length capb, .slice M Y.length capm] 44)) (.cells #[.int .i64 code, .int .i64 line, .int .i64 col, .int .i64 cnt, .string T, .slice B X.length capb, .slice M Y.length capm] 48)).block (w.heap.size + 1) (blk_lt HY2.out)).trans HY2.out⟩
  clear z1_0 z1_1 z1_2 z1_3 z1_4 z1_5 z1_6
  go_upto_region 4 with (fail)
  have z2_0 : ((w2.alloc (.cells #[.int .i64 code, .int .i64 line, .int .i64 col, .int .i64 cnt, .string T, .slice B X.length capb, .slice M Y.length capm] 44)).alloc (.cells #[.int .i64 code, .int .i64 line, .int .i64 col, .int .i64 cnt, .string T, .slice B X.length capb, .slice M Y.length capm] 48)).cell? ⟨w.heap.size + 1, 0, none⟩ = some (.int .i64 code2) := (blk_cell HY3.out 0).trans rfl
  have z2_1 : ((w2.alloc (.cells #[.int .i64 code, .int .i64 line, .int .i64 col, .int .i64 cnt, .string T, .slice B X.length capb, .slice M Y.length capm] 44)).alloc (.cells #[.int .i64 code, .int .i64 line, .int .i64 col, .int .i64 cnt, .string T, .slice B X.length capb, .slice M Y.length capm] 48)).cell? ⟨w.heap.size + 1, 1, none⟩ = some (.int .i64 line2) := (blk_cell HY3.out 1).trans rfl
  have z2_2 : ((w2.alloc (.cells #[.int .i64 code, .int .i64 line, .int .i64 col, .int .i64 cnt, .string T, .slice B X.length capb, .slice M Y.length capm] 44)).alloc (.cells #[.int .i64 code, .int .i64 line, .int .i64 col, .int .i64 cnt, .string T, .slice B X.length capb, .slice M Y.length capm] 48)).cell? ⟨w.heap.size + 1, 2, none⟩ = some (.int .i64 col2) := (blk_cell HY3.out 2).trans rfl
  have z2_3 : ((w2.alloc (.cells #[.int .i64 code, .int .i64 line, .int .i64 col, .int .i64 cnt, .string T, .slice B X.length capb, .slice M Y.length capm] 44)).alloc (.cells #[.int .i64 code, .int .i64 line, .int .i64 col, .int .i64 cnt, .string T, .slice B X.length capb, .slice M Y.length capm] 48)).cell? ⟨w.heap.size + 1, 3, none⟩ = some (.int .i64 cnt2) := (blk_cell HY3.out 3).trans rfl
  have z2_4 : ((w2.alloc (.cells #[.int .i64 code, .int .i64 line, .int .i64 col, .int .i64 cnt, .string T, .slice B X.length capb, .slice M Y.length capm] 44)).alloc (.cells #[.int .i64 code, .int .i64 line, .int .i64 col, .int .i64 cnt, .string T, .slice B X.length capb, .slice M Y.length capm] 48)).cell? ⟨w.heap.size + 1, 4, none⟩ = some (.string tx2) := (blk_cell HY3.out 4).trans rfl
  have z2_5 : ((w2.alloc (.cells #[.int .i64 code, .int .i64 line, .int .i64 col, .int .i64 cnt, .string T, .slice B X.length capb, .slice M Y.length capm] 44)).alloc (.cells #[.int .i64 code, .int .i64 line, .int .i64 col, .int .i64 cnt, .string T, .slice B X.length capb, .slice M Y.length capm] 48)).cell? ⟨w.heap.size + 1, 5, none⟩ = some (.slice A2 ts2.length cap2) := (blk_cell HY3.out 5).trans rfl
  have z2_6 : ((w2.alloc (.cells #[.int .i64 code, .int .i64 line, .int .i64 col, .int .i64 cnt, .string T, .slice B X.length capb, .slice M Y.length capm] 44)).alloc (.cells #[.int .i64 code, .int .i64 line, .int .i64 col, .int .i64 cnt, .string T, .slice B X.length capb, .slice M Y.length capm] 48)).cell? ⟨w.heap.size + 1, 6, none⟩ = some (.slice U2 us2.length capu2) := (blk_cell HY3.out 6).trans rfl
  go_wp2_with fail
  refine (HR2.out _ (Kd.C_below HA2.out HB3.out) (Kd.C_below HU2.out HB3.out)).mono ?_
  rintro e w4 ⟨B2, capb2, M2, capm2, rfl, hB, hcb, hM, hcm, hb4⟩
  have P4 := Aside0.mk (P3.out.move hb4)
  have HB4 := Aside0.mk (below_then HB3.out HB3.out.size hb4)
  have HBN := Aside0.mk (below_alloc (below_alloc (Below.refl w4.heap.size w4) (.cells #[.int .i64 code2, .int .i64 line2, .int .i64 col2, .int .i64 cnt2, .string T2, .slice B2 X2.length capb2, .slice M2 Y2.length capm2] 44)) (.cells #[.int .i64 code2, .int .i64 line2, .int .i64 col2, .int .i64 cnt2, .string T2, .slice B2 X2.length capb2, .slice M2 Y2.length capm2] 48))
  have P5 := Aside0.mk (P4.out.move HBN.out)
  have Q5 : Aside0 (Two ((w4.alloc (.cells #[.int .i64 code2, .int .i64 line2, .int .i64 col2, .int .i64 cnt2, .string T2, .slice B2 X2.length capb2, .slice M2 Y2.length capm2] 44)).alloc (.cells #[.int .i64 code2, .int .i64 line2, .int .i64 col2, .int .i64 cnt2, .string T2, .slice B2 X2.length capb2, .slice M2 Y2.length capm2] 48)) w4.heap.size #[.int .i64 code2, .int .i64 line2, .int .i64 col2, .int .i64 cnt2, .string T2, .slice B2 X2.length capb2, .slice M2 Y2.length capm2] B2 X2 M2 Y2) := ⟨Two.new hB hM⟩
  have HB5 := Aside0.mk (below_alloc (below_alloc HB4.out (.cells #[.int .i64 code2, .int .i64 line2, .int .i64 col2, .int .i64 cnt2, .string T2, .slice B2 X2.length capb2, .slice M2 Y2.length capm2] 44)) (.cells #[.int .i64 code2, .int .i64 line2, .int .i64 col2, .int .i64 cnt2, .string T2, .slice B2 X2.length capb2, .slice M2 Y2.length capm2] 48))
  have HCB2 := Aside0.mk hcb
  clear hB hcb hM hcm hb4 P3 HY2 HY3 HBN P4
  clear z2_0 z2_1 z2_2 z2_3 z2_4 z2_5 z2_6
  go_upto_region 5 with (fail)
  have z4_0 : ((w4.alloc (.cells #[.int .i64 code2, .int .i64 line2, .int .i64 col2, .int .i64 cnt2, .string T2, .slice B2 X2.length capb2, .slice M2 Y2.length capm2] 44)).alloc (.cells #[.int .i64 code2, .int .i64 line2, .int .i64 col2, .int .i64 cnt2, .string T2, .slice B2 X2.length capb2, .slice M2 Y2.length capm2] 48)).cell? ⟨w2.heap.size, 0, none⟩ = some (.int .i64 code) := (blk_cell P5.out.a 0).trans rfl
  have z4_1 : ((w4.alloc (.cells #[.int .i64 code2, .int .i64 line2, .int .i64 col2, .int .i64 cnt2, .string T2, .slice B2 X2.length capb2, .slice M2 Y2.length capm2] 44)).alloc (.cells #[.int .i64 code2, .int .i64 line2, .int .i64 col2, .int .i64 cnt2, .string T2, .slice B2 X2.length capb2, .slice M2 Y2.length capm2] 48)).cell? ⟨w2.heap.size, 1, none⟩ = some (.int .i64 line) := (blk_cell P5.out.a 1).trans rfl
  have z4_2 : ((w4.alloc (.cells #[.int .i64 code2, .int .i64 line2, .int .i64 col2, .int .i64 cnt2, .string T2, .slice B2 X2.length capb2, .slice M2 Y2.length capm2] 44)).alloc (.cells #[.int .i64 code2, .int .i64 line2, .int .i64 col2, .int .i64 cnt2, .string T2, .slice B2 X2.length capb2, .slice M2 Y2.length capm2] 48)).cell? ⟨w2.heap.size, 2, none⟩ = some (.int .i64 col) := (blk_cell P5.out.a 2).trans rfl
  have z4_3 : ((w4.alloc (.cells #[.int .i64 code2, .int .i64 line2, .int .i64 col2, .int .i64 cnt2, .string T2, .slice B2 X2.length capb2, .slice M2 Y2.length capm2] 44)).alloc (.cells #[.int .i64 code2, .int .i64 line2, .int .i64 col2, .int .i64 cnt2, .string T2, .slice B2 X2.length capb2, .slice M2 Y2.length capm2] 48)).cell? ⟨w2.heap.size, 3, none⟩ = some (.int .i64 cnt) := (blk_cell P5.out.a 3).trans rfl
  have z4_4 : ((w4.alloc (.cells #[.int .i64 code2, .int .i64 line2, .int .i64 col2, .int .i64 cnt2, .string T2, .slice B2 X2.length capb2, .slice M2 Y2.length capm2] 44)).alloc (.cells #[.int .i64 code2, .int .i64 line2, .int .i64 col2, .int .i64 cnt2, .string T2, .slice B2 X2.length capb2, .slice M2 Y2.length capm2] 48)).cell? ⟨w2.heap.size, 4, none⟩ = some (.string T) := (blk_cell P5.out.a 4).trans rfl
  have z4_5 : ((w4.alloc (.cells #[.int .i64 code2, .int .i64 line2, .int .i64 col2, .int .i64 cnt2, .string T2, .slice B2 X2.length capb2, .slice M2 Y2.length capm2] 44)).alloc (.cells #[.int .i64 code2, .int .i64 line2, .int .i64 col2, .int .i64 cnt2, .string T2, .slice B2 X2.length capb2, .slice M2 Y2.length capm2] 48)).cell? ⟨w2.heap.size, 5, none⟩ = some (.slice B X.length capb) := (blk_cell P5.out.a 5).trans rfl
  have z4_6 : ((w4.alloc (.cells #[.int .i64 code2, .int .i64 line2, .int .i64 col2, .int .i64 cnt2, .string T2, .slice B2 X2.length capb2, .slice M2 Y2.length capm2] 44)).alloc (.cells #[.int .i64 code2, .int .i64 line2, .int .i64 col2, .int .i64 cnt2, .string T2, .slice B2 X2.length capb2, .slice M2 Y2.length capm2] 48)).cell? ⟨w2.heap.size, 6, none⟩ = some (.slice M Y.length capm) := (blk_cell P5.out.a 6).trans rfl
  go_wp2_with fail
  refine (putReply_calls code line col cnt T B capb X M capm Y _ P5.out.t P5.out.m HYM.out).mono ?_
  rintro e w6 ⟨rfl, hb6⟩
  rw [HSE.out]
  have Q1 := Aside0.mk (P5.out.move hb6)
  have Q2 := Aside0.mk (Q5.out.move hb6)
  have HB6 := Aside0.mk (below_then HB5.out HB5.out.size hb6)
  clear hb6 P5 Q5 z4_0 z4_1 z4_2 z4_3 z4_4 z4_5 z4_6
  have ya_0 : w6.cell? ⟨w2.heap.size, 0, none⟩ = some (.int .i64 code) := (blk_cell Q1.out.a 0).trans rfl
  have ya_1 : w6.cell? ⟨w2.heap.size, 1, none⟩ = some (.int .i64 line) := (blk_cell Q1.out.a 1).trans rfl
  have ya_2 : w6.cell? ⟨w2.heap.size, 2, none⟩ = some (.int .i64 col) := (blk_cell Q1.out.a 2).trans rfl
  have ya_3 : w6.cell? ⟨w2.heap.size, 3, none⟩ = some (.int .i64 cnt) := (blk_cell Q1.out.a 3).trans rfl
  have ya_4 : w6.cell? ⟨w2.heap.size, 4, none⟩ = some (.string T) := (blk_cell Q1.out.a 4).trans rfl
  have ya_5 : w6.cell? ⟨w2.heap.size, 5, none⟩ = some (.slice B X.length capb) := (blk_cell Q1.out.a 5).trans rfl
  have ya_6 : w6.cell? ⟨w2.heap.size, 6, none⟩ = some (.slice M Y.length capm) := (blk_cell Q1.out.a 6).trans rfl
  have yb_0 : w6.cell? ⟨w2.heap.size + 1, 0, none⟩ = some (.int .i64 code) := (blk_cell Q1.out.b 0).trans rfl
  have yb_1 : w6.cell? ⟨w2.heap.size + 1, 1, none⟩ = some (.int .i64 line) := (blk_cell Q1.out.b 1).trans rfl
  have yb_2 : w6.cell? ⟨w2.heap.size + 1, 2, none⟩ = some (.int .i64 col) := (blk_cell Q1.out.b 2).trans rfl
  have yb_3 : w6.cell? ⟨w2.heap.size + 1, 3, none⟩ = some (.int .i64 cnt) := (blk_cell Q1.out.b 3).trans rfl
  have yb_4 : w6.cell? ⟨w2.heap.size + 1, 4, none⟩ = some (.string T) := (blk_cell Q1.out.b 4).trans rfl
  have yb_5 : w6.cell? ⟨w2.heap.size + 1, 5, none⟩ = some (.slice B X.length capb) := (blk_cell Q1.out.b 5).trans rfl
  have yb_6 : w6.cell? ⟨w2.heap.size + 1, 6, none⟩ = some (.slice M Y.length capm) := (blk_cell Q1.out.b 6).trans rfl
  have yc_0 : w6.cell? ⟨w4.heap.size, 0, none⟩ = some (.int .i64 code2) := (blk_cell Q2.out.a 0).trans rfl
  have yc_1 : w6.cell? ⟨w4.heap.size, 1, none⟩ = some (.int .i64 line2) := (blk_cell Q2.out.a 1).trans rfl
  have yc_2 : w6.cell? ⟨w4.heap.size, 2, none⟩ = some (.int .i64 col2) := (blk_cell Q2.out.a 2).trans rfl
  have yc_3 : w6.cell? ⟨w4.heap.size, 3, none⟩ = some (.int .i64 cnt2) := (blk_cell Q2.out.a 3).trans rfl
  have yc_4 : w6.cell? ⟨w4.heap.size, 4, none⟩ = some (.string T2) := (blk_cell Q2.out.a 4).trans rfl
  have yc_5 : w6.cell? ⟨w4.heap.size, 5, none⟩ = some (.slice B2 X2.length capb2) := (blk_cell Q2.out.a 5).trans rfl
  have yc_6 : w6.cell? ⟨w4.heap.size, 6, none⟩ = some (.slice M2 Y2.length capm2) := (blk_cell Q2.out.a 6).trans rfl
  have yd_0 : w6.cell? ⟨w4.heap.size + 1, 0, none⟩ = some (.int .i64 code2) := (blk_cell Q2.out.b 0).trans rfl
  have yd_1 : w6.cell? ⟨w4.heap.size + 1, 1, none⟩ = some (.int .i64 line2) := (blk_cell Q2.out.b 1).trans rfl
  have yd_2 : w6.cell? ⟨w4.heap.size + 1, 2, none⟩ = some (.int .i64 col2) := (blk_cell Q2.out.b 2).trans rfl
  have yd_3 : w6.cell? ⟨w4.heap.size + 1, 3, none⟩ = some (.int .i64 cnt2) := (blk_cell Q2.out.b 3).trans rfl
  have yd_4 : w6.cell? ⟨w4.heap.size + 1, 4, none⟩ = some (.string T2) := (blk_cell Q2.out.b 4).trans rfl
  have yd_5 : w6.cell? ⟨w4.heap.size + 1, 5, none⟩ = some (.slice B2 X2.length capb2) := (blk_cell Q2.out.b 5).trans rfl
  have yd_6 : w6.cell? ⟨w4.heap.size + 1, 6, none⟩ = some (.slice M2 Y2.length capm2) := (blk_cell Q2.out.b 6).trans rfl
  have hss : (S.toList != S.toList) = false := by simp
  have hvv : (al != al) = false := by cases al <;> rfl
  have HWc := Aside0.mk (Below.refl w6.heap.size w6)
  go_upto_region 6 with (fail)
  go_cut [44] (fun v44 wx => v44 = .bool false ∧ Aside0 (Below w6.heap.size w6 wx))
  case first =>
    go_region_held3 (fun w' => w'.cell? ⟨w2.heap.size, 0, none⟩ = some (.int .i64 code) ∧ w'.cell? ⟨w2.heap.size, 1, none⟩ = some (.int .i64 line) ∧ w'.cell? ⟨w2.heap.size, 2, none⟩ = some (.int .i64 col) ∧ w'.cell? ⟨w2.heap.size, 3, none⟩ = some (.int .i64 cnt) ∧ w'.cell? ⟨w2.heap.size, 4, none⟩ = some (.string T) ∧ w'.cell? ⟨w2.heap.size, 5, none⟩ = some (.slice B X.length capb) ∧ w'.cell? ⟨w2.heap.size, 6, none⟩ = some (.slice M Y.length capm) ∧ w'.cell? ⟨w2.heap.size + 1, 0, none⟩ = some (.int .i64 code) ∧ w'.cell? ⟨w2.heap.size + 1, 1, none⟩ = some (.int .i64 line) ∧ w'.cell? ⟨w2.heap.size + 1, 2, none⟩ = some (.int .i64 col) ∧ w'.cell? ⟨w2.heap.size + 1, 3, none⟩ = some (.int .i64 cnt) ∧ w'.cell? ⟨w2.heap.size + 1, 4, none⟩ = some (.string T) ∧ w'.cell? ⟨w2.heap.size + 1, 5, none⟩ = some (.slice B X.length capb) ∧ w'.cell? ⟨w2.heap.size + 1, 6, none⟩ = some (.slice M Y.length capm) ∧ w'.cell? ⟨w4.heap.size, 0, none⟩ = some (.int .i64 code2) ∧ w'.cell? ⟨w4.heap.size, 1, none⟩ = some (.int .i64 line2) ∧ w'.cell? ⟨w4.heap.size, 2, none⟩ = some (.int .i64 col2) ∧ w'.cell? ⟨w4.heap.size, 3, none⟩ = some (.int .i64 cnt2) ∧ w'.cell? ⟨w4.heap.size, 4, none⟩ = some (.string T2) ∧ w'.cell? ⟨w4.heap.size, 5, none⟩ = some (.slice B2 X2.length capb2) ∧ w'.cell? ⟨w4.heap.size, 6, none⟩ = some (.slice M2 Y2.length capm2) ∧ w'.cell? ⟨w4.heap.size + 1, 0, none⟩ = some (.int .i64 code2) ∧ w'.cell? ⟨w4.heap.size + 1, 1, none⟩ = some (.int .i64 line2) ∧ w'.cell? ⟨w4.heap.size + 1, 2, none⟩ = some (.int .i64 col2) ∧ w'.cell? ⟨w4.heap.size + 1, 3, none⟩ = some (.int .i64 cnt2) ∧ w'.cell? ⟨w4.heap.size + 1, 4, none⟩ = some (.string T2) ∧ w'.cell? ⟨w4.heap.size + 1, 5, none⟩ = some (.slice B2 X2.length capb2) ∧ w'.cell? ⟨w4.heap.size + 1, 6, none⟩ = some (.slice M2 Y2.length capm2)) (first | (with_reducible exact c28 ((HWc.out.block (w2.heap.size) (blk_lt Q1.out.a)).trans Q1.out.a) ((HWc.out.block (w2.heap.size + 1) (blk_lt Q1.out.b)).trans Q1.out.b) ((HWc.out.block (w4.heap.size) (blk_lt Q2.out.a)).trans Q2.out.a) ((HWc.out.block (w4.heap.size + 1) (blk_lt Q2.out.b)).trans Q2.out.b)) | (with_reducible exact c28 (blk_drew ((HWc.out.block (w2.heap.size) (blk_lt Q1.out.a)).trans Q1.out.a)) (blk_drew ((HWc.out.block (w2.heap.size + 1) (blk_lt Q1.out.b)).trans Q1.out.b)) (blk_drew ((HWc.out.block (w4.heap.size) (blk_lt Q2.out.a)).trans Q2.out.a)) (blk_drew ((HWc.out.block (w4.heap.size + 1) (blk_lt Q2.out.b)).trans Q2.out.b))) | go_keep) (first
      | (go_at_call 35; (with_reducible refine (rPutReply_calls code line col cnt T B capb X M capm Y _ (Kd.C_below Q1.out.t (by first | exact HWc.out | exact below_drew HWc.out | exact pw_below_drewN HWc.out _)) HCB.out (Kd.C_below Q1.out.m (by first | exact HWc.out | exact below_drew HWc.out | exact pw_below_drewN HWc.out _)) HYM.out HN.out HZT.out HZX.out HZS.out HZY.out).mono ?_); rintro e w7 ⟨rfl, hb5⟩; rw [HSE.out]; have HWn := Aside0.mk (below_then (by first | exact HWc.out | exact below_drew HWc.out | exact pw_below_drewN HWc.out _) (by first | exact HWc.out.size | exact (below_drew HWc.out).size | exact (pw_below_drewN HWc.out _).size) hb5); clear HWc hb5; have HWc := HWn; clear HWn)
      | (go_at_call 36; (with_reducible refine (cSame_calls code line col cnt T B capb X M capm Y code2 line2 col2 cnt2 T2 B2 capb2 X2 M2 capm2 Y2 _ (Kd.C_below Q1.out.t (by first | exact HWc.out | exact below_drew HWc.out | exact pw_below_drewN HWc.out _)) HCB.out (Kd.C_below Q1.out.m (by first | exact HWc.out | exact below_drew HWc.out | exact pw_below_drewN HWc.out _)) HYM.out (Kd.C_below Q2.out.t (by first | exact HWc.out | exact below_drew HWc.out | exact pw_below_drewN HWc.out _)) HCB2.out (Kd.C_below Q2.out.m (by first | exact HWc.out | exact below_drew HWc.out | exact pw_below_drewN HWc.out _)) HYM2.out).mono ?_); rintro e w7 ⟨rfl, hb5⟩; rw [HAL.out]; have HWn := Aside0.mk (below_then (by first | exact HWc.out | exact below_drew HWc.out | exact pw_below_drewN HWc.out _) (by first | exact HWc.out.size | exact (below_drew HWc.out).size | exact (pw_below_drewN HWc.out _).size) hb5); clear HWc hb5; have HWc := HWn; clear HWn)
      | (go_at_call 36; (with_reducible refine (cSame_calls code line col cnt T B capb X M capm Y code line col cnt T B capb X M capm Y _ (Kd.C_below Q1.out.t (by first | exact HWc.out | exact below_drew HWc.out | exact pw_below_drewN HWc.out _)) HCB.out (Kd.C_below Q1.out.m (by first | exact HWc.out | exact below_drew HWc.out | exact pw_below_drewN HWc.out _)) HYM.out (Kd.C_below Q1.out.t (by first | exact HWc.out | exact below_drew HWc.out | exact pw_below_drewN HWc.out _)) HCB.out (Kd.C_below Q1.out.m (by first | exact HWc.out | exact below_drew HWc.out | exact pw_below_drewN HWc.out _)) HYM.out).mono ?_); rintro e w7 ⟨rfl, hb5⟩; rw [alikeV_refl]; have HWn := Aside0.mk (below_then (by first | exact HWc.out | exact below_drew HWc.out | exact pw_below_drewN HWc.out _) (by first | exact HWc.out.size | exact (below_drew HWc.out).size | exact (pw_below_drewN HWc.out _).size) hb5); clear HWc hb5; have HWc := HWn; clear HWn)
      | (go_at_call 23; (with_reducible refine (alike_calls code line col cnt T B capb X M capm Y code2 line2 col2 cnt2 T2 B2 capb2 X2 M2 capm2 Y2 _ (Kd.C_below Q1.out.t (by first | exact HWc.out | exact below_drew HWc.out | exact pw_below_drewN HWc.out _)) HCB.out (Kd.C_below Q1.out.m (by first | exact HWc.out | exact below_drew HWc.out | exact pw_below_drewN HWc.out _)) HYM.out (Kd.C_below Q2.out.t (by first | exact HWc.out | exact below_drew HWc.out | exact pw_below_drewN HWc.out _)) HCB2.out (Kd.C_below Q2.out.m (by first | exact HWc.out | exact below_drew HWc.out | exact pw_below_drewN HWc.out _)) HYM2.out).mono ?_); rintro e w7 ⟨rfl, hb5⟩; rw [HAL.out]; have HWn := Aside0.mk (below_then (by first | exact HWc.out | exact below_drew HWc.out | exact pw_below_drewN HWc.out _) (by first | exact HWc.out.size | exact (below_drew HWc.out).size | exact (pw_below_drewN HWc.out _).size) hb5); clear HWc hb5; have HWc := HWn; clear HWn))
    all_goals
      go_wp2_with fail
      go_meet
      case rel => exact ⟨rfl, ⟨by first | exact HWc.out | exact below_drew HWc.out | exact pw_below_drewN HWc.out _⟩⟩
  case rest =>
    obtain ⟨wx, rfl⟩ : ∃ wx : World, wx = wc := ⟨_, rfl⟩
    obtain ⟨rfl, HWx⟩ := hcut
    have R1 := Aside0.mk (Q1.out.move HWx.out)
    have HBx := Aside0.mk (below_then HB6.out HB6.out.size HWx.out)
    clear Q1 Q2 HB6 HWc HWx hss hvv ya_0 ya_1 ya_2 ya_3 ya_4 ya_5 ya_6 yb_0 yb_1 yb_2 yb_3 yb_4 yb_5 yb_6 yc_0 yc_1 yc_2 yc_3 yc_4 yc_5 yc_6 yd_0 yd_1 yd_2 yd_3 yd_4 yd_5 yd_6
    cases hbad : repBad code line col cnt T X Y
    rotate_left
    · obtain rfl : S = ⟨#[]⟩ := by rw [← HSE.out]; unfold putR; rw [if_neg (by have := HZX.out; have := HZY.out; omega), if_pos hbad]
      have hne := getR_nil
      obtain ⟨⟨c1, l1, k1, n1, t1, ts1, ms1⟩, er, hq⟩ : ∃ x er, getR ⟨#[]⟩ = (x, er) := ⟨_, _, rfl⟩
      have hg := cGetReply_calls ⟨#[]⟩ wx
      rw [hq] at hg hne
      have hne1 : (er != 0) = true := by rw [bne_iff_ne]; exact hne
      have HG := Aside0.mk hg
      clear hg hq hne hbad
      go_wp2_with fail
      refine (HG.out).mono ?_
      rintro e w8 ⟨B3, capb3, M3, capm3, rfl, _, _, _, _, hb8⟩
      have HB8 := Aside0.mk (below_alloc (below_then HBx.out HBx.out.size hb8) (.cells #[.int .i64 c1, .int .i64 l1, .int .i64 k1, .int .i64 n1, .string t1, .slice B3 ts1.length capb3, .slice M3 ms1.length capm3] 44))
      clear hb8
      go_wp2
      go_ret
      exact ⟨rfl, HB8.out⟩
    have hget := get_put_rep code line col cnt T X Y HZT.out HZX.out HZS.out HZY.out HYM.out hbad
    have hpos : S.size ≠ 0 := by rw [← HSE.out]; exact putR_pos (by have := HZX.out; have := HZY.out; omega) hbad
    have m1 : (S.toList == ([] : List UInt8)) = false := by rw [beq_eq_false_iff_ne]; exact fun h => hpos ((toList_nil_iff S).mp h)
    have m2 : S.toList.isEmpty = false := isEmpty_false hpos
    rw [HSE.out] at hget
    have hg := cGetReply_calls S wx
    clear hpos hbad
    by_cases hc : code < 0 ∨ 20 < code
    · rw [if_pos hc] at hget
      rw [hget] at hg
      have HG := Aside0.mk hg
      clear hg hget
      go_wp2_with fail
      refine (HG.out).mono ?_
      intro e w8 hh
      obtain ⟨B3, capb3, M3, capm3, rfl, hb8⟩ := toldR_openz (er := 2) hh
      have R8 := Aside0.mk ((R1.out.move hb8).move (below_alloc (Below.refl w8.heap.size w8) (.cells #[.int .i64 0, .int .i64 0, .int .i64 0, .int .i64 0, .string ⟨#[]⟩, .slice B3 0 capb3, .slice M3 0 capm3] 44)))
      have HB8 := Aside0.mk (below_alloc (below_then HBx.out HBx.out.size hb8) (.cells #[.int .i64 0, .int .i64 0, .int .i64 0, .int .i64 0, .string ⟨#[]⟩, .slice B3 0 capb3, .slice M3 0 capm3] 44))
      clear hb8
      go_upto_region 11 with (fail)
      have z0 : (w8.alloc (.cells #[.int .i64 0, .int .i64 0, .int .i64 0, .int .i64 0, .string ⟨#[]⟩, .slice B3 0 capb3, .slice M3 0 capm3] 44)).cell? ⟨w2.heap.size + 1, 0, none⟩ = some (.int .i64 code) := (blk_cell R8.out.b 0).trans rfl
      by_cases h0 : code < 0
      · have d1 : decide (code < 0) = true := decide_eq_true h0
        clear hc h0
        go_wp2
        go_ret
        exact ⟨rfl, HB8.out⟩
      · have d1 : decide (code < 0) = false := decide_eq_false h0
        have d2 : decide (20 < code) = true := by simp; omega
        clear hc h0
        go_wp2
        go_ret
        exact ⟨rfl, HB8.out⟩
    · rw [if_neg hc] at hget
      rw [hget] at hg
      obtain ⟨Z, hZ⟩ : ∃ Z, Y.map canonB = Z := ⟨_, rfl⟩
      have hzm : ∀ z ∈ Z, z < 18446744073709551616 := fun z hz => by rw [← hZ] at hz; obtain ⟨y, hy, rfl⟩ := List.mem_map.1 hz; exact canonB_lt (HYM.out y hy)
      have hcn : alikeV ⟨code, line, col, cnt, T, X, Z⟩ ⟨code, line, col, cnt, T, X, Y⟩ = true := by rw [← hZ]; exact alikeV_canon _ _ _ _ _ _ _
      rw [hZ] at hg
      have HZM := Aside0.mk hzm
      have HCN := Aside0.mk hcn
      have HG := Aside0.mk hg
      have d1 : decide (code < 0) = false := by simp; omega
      have d2 : decide (20 < code) = false := by simp; omega
      clear hg hget hZ hzm hcn hc
      go_wp2_with fail
      refine (HG.out).mono ?_
      intro e w8 hh
      obtain ⟨B3, capb3, M3, capm3, rfl, hB, hcb, hM, hb8⟩ := toldR_open (er := 0) hh
      clear hh
      have HBN := Aside0.mk (below_alloc (Below.refl w8.heap.size w8) (.cells #[.int .i64 code, .int .i64 line, .int .i64 col, .int .i64 cnt, .string T, .slice B3 X.length capb3, .slice M3 Z.length capm3] 44))
      have R8 := Aside0.mk ((R1.out.move hb8).move HBN.out)
      have HD8 : Aside0 ((w8.alloc (.cells #[.int .i64 code, .int .i64 line, .int .i64 col, .int .i64 cnt, .string T, .slice B3 X.length capb3, .slice M3 Z.length capm3] 44)).heap[w8.heap.size]? = some (.cells #[.int .i64 code, .int .i64 line, .int .i64 col, .int .i64 cnt, .string T, .slice B3 X.length capb3, .slice M3 Z.length capm3] 44 (0, 0))) := ⟨heap_new' rfl⟩
      have HT8 := Aside0.mk (Kd.C_below hB HBN.out)
      have HM8 := Aside0.mk (Kd.C_below hM HBN.out)
      have HC8 := Aside0.mk hcb
      have HB8 := Aside0.mk (below_alloc (below_then HBx.out HBx.out.size hb8) (.cells #[.int .i64 code, .int .i64 line, .int .i64 col, .int .i64 cnt, .string T, .slice B3 X.length capb3, .slice M3 Z.length capm3] 44))
      clear hB hcb hM hb8 HBN
      go_upto_region 11 with (fail)
      have z0 : (w8.alloc (.cells #[.int .i64 code, .int .i64 line, .int .i64 col, .int .i64 cnt, .string T, .slice B3 X.length capb3, .slice M3 Z.length capm3] 44)).cell? ⟨w2.heap.size + 1, 0, none⟩ = some (.int .i64 code) := (blk_cell R8.out.b 0).trans rfl
      go_upto_region 13 with (fail)
      obtain ⟨w9, hw9⟩ : ∃ w9, w9 = w8.alloc (.cells #[.int .i64 code, .int .i64 line, .int .i64 col, .int .i64 cnt, .string T, .slice B3 X.length capb3, .slice M3 Z.length capm3] 44) := ⟨_, rfl⟩
      rw [← hw9] at R8 HD8 HT8 HM8 HB8
      simp only [← hw9]
      clear hw9 z0
      have za_0 : w9.cell? ⟨w2.heap.size, 0, none⟩ = some (.int .i64 code) := (blk_cell R8.out.a 0).trans rfl
      have za_1 : w9.cell? ⟨w2.heap.size, 1, none⟩ = some (.int .i64 line) := (blk_cell R8.out.a 1).trans rfl
      have za_2 : w9.cell? ⟨w2.heap.size, 2, none⟩ = some (.int .i64 col) := (blk_cell R8.out.a 2).trans rfl
      have za_3 : w9.cell? ⟨w2.heap.size, 3, none⟩ = some (.int .i64 cnt) := (blk_cell R8.out.a 3).trans rfl
      have za_4 : w9.cell? ⟨w2.heap.size, 4, none⟩ = some (.string T) := (blk_cell R8.out.a 4).trans rfl
      have za_5 : w9.cell? ⟨w2.heap.size, 5, none⟩ = some (.slice B X.length capb) := (blk_cell R8.out.a 5).trans rfl
      have za_6 : w9.cell? ⟨w2.heap.size, 6, none⟩ = some (.slice M Y.length capm) := (blk_cell R8.out.a 6).trans rfl
      have zb_0 : w9.cell? ⟨w2.heap.size + 1, 0, none⟩ = some (.int .i64 code) := (blk_cell R8.out.b 0).trans rfl
      have zb_1 : w9.cell? ⟨w2.heap.size + 1, 1, none⟩ = some (.int .i64 line) := (blk_cell R8.out.b 1).trans rfl
      have zb_2 : w9.cell? ⟨w2.heap.size + 1, 2, none⟩ = some (.int .i64 col) := (blk_cell R8.out.b 2).trans rfl
      have zb_3 : w9.cell? ⟨w2.heap.size + 1, 3, none⟩ = some (.int .i64 cnt) := (blk_cell R8.out.b 3).trans rfl
      have zb_4 : w9.cell? ⟨w2.heap.size + 1, 4, none⟩ = some (.string T) := (blk_cell R8.out.b 4).trans rfl
      have zb_5 : w9.cell? ⟨w2.heap.size + 1, 5, none⟩ = some (.slice B X.length capb) := (blk_cell R8.out.b 5).trans rfl
      have zb_6 : w9.cell? ⟨w2.heap.size + 1, 6, none⟩ = some (.slice M Y.length capm) := (blk_cell R8.out.b 6).trans rfl
      have zc_0 : w9.cell? ⟨w8.heap.size, 0, none⟩ = some (.int .i64 code) := (blk_cell HD8.out 0).trans rfl
      have zc_1 : w9.cell? ⟨w8.heap.size, 1, none⟩ = some (.int .i64 line) := (blk_cell HD8.out 1).trans rfl
      have zc_2 : w9.cell? ⟨w8.heap.size, 2, none⟩ = some (.int .i64 col) := (blk_cell HD8.out 2).trans rfl
      have zc_3 : w9.cell? ⟨w8.heap.size, 3, none⟩ = some (.int .i64 cnt) := (blk_cell HD8.out 3).trans rfl
      have zc_4 : w9.cell? ⟨w8.heap.size, 4, none⟩ = some (.string T) := (blk_cell HD8.out 4).trans rfl
      have zc_5 : w9.cell? ⟨w8.heap.size, 5, none⟩ = some (.slice B3 X.length capb3) := (blk_cell HD8.out 5).trans rfl
      have zc_6 : w9.cell? ⟨w8.heap.size, 6, none⟩ = some (.slice M3 Z.length capm3) := (blk_cell HD8.out 6).trans rfl
      go_wp2_with fail
      refine (alike_calls code line col cnt T B3 capb3 X M3 capm3 Z code line col cnt T B capb X M capm Y _ HT8.out HC8.out HM8.out HZM.out R8.out.t HCB.out R8.out.m HYM.out).mono ?_
      rintro e w10 ⟨rfl, hb5⟩
      rw [HCN.out]
      have R10 := Aside0.mk (R8.out.move hb5)
      have HD10 := Aside0.mk ((hb5.block w8.heap.size (blk_lt HD8.out)).trans HD8.out)
      have HT10 := Aside0.mk (Kd.C_below HT8.out hb5)
      have HM10 := Aside0.mk (Kd.C_below HM8.out hb5)
      have HB10 := Aside0.mk (below_then HB8.out HB8.out.size hb5)
      clear hb5 za_0 za_1 za_2 za_3 za_4 za_5 za_6 zb_0 zb_1 zb_2 zb_3 zb_4 zb_5 zb_6 zc_0 zc_1 zc_2 zc_3 zc_4 zc_5 zc_6
      have za_0 : w10.cell? ⟨w2.heap.size, 0, none⟩ = some (.int .i64 code) := (blk_cell R10.out.a 0).trans rfl
      have za_1 : w10.cell? ⟨w2.heap.size, 1, none⟩ = some (.int .i64 line) := (blk_cell R10.out.a 1).trans rfl
      have za_2 : w10.cell? ⟨w2.heap.size, 2, none⟩ = some (.int .i64 col) := (blk_cell R10.out.a 2).trans rfl
      have za_3 : w10.cell? ⟨w2.heap.size, 3, none⟩ = some (.int .i64 cnt) := (blk_cell R10.out.a 3).trans rfl
      have za_4 : w10.cell? ⟨w2.heap.size, 4, none⟩ = some (.string T) := (blk_cell R10.out.a 4).trans rfl
      have za_5 : w10.cell? ⟨w2.heap.size, 5, none⟩ = some (.slice B X.length capb) := (blk_cell R10.out.a 5).trans rfl
      have za_6 : w10.cell? ⟨w2.heap.size, 6, none⟩ = some (.slice M Y.length capm) := (blk_cell R10.out.a 6).trans rfl
      have zc_0 : w10.cell? ⟨w8.heap.size, 0, none⟩ = some (.int .i64 code) := (blk_cell HD10.out 0).trans rfl
      have zc_1 : w10.cell? ⟨w8.heap.size, 1, none⟩ = some (.int .i64 line) := (blk_cell HD10.out 1).trans rfl
      have zc_2 : w10.cell? ⟨w8.heap.size, 2, none⟩ = some (.int .i64 col) := (blk_cell HD10.out 2).trans rfl
      have zc_3 : w10.cell? ⟨w8.heap.size, 3, none⟩ = some (.int .i64 cnt) := (blk_cell HD10.out 3).trans rfl
      have zc_4 : w10.cell? ⟨w8.heap.size, 4, none⟩ = some (.string T) := (blk_cell HD10.out 4).trans rfl
      have zc_5 : w10.cell? ⟨w8.heap.size, 5, none⟩ = some (.slice B3 X.length capb3) := (blk_cell HD10.out 5).trans rfl
      have zc_6 : w10.cell? ⟨w8.heap.size, 6, none⟩ = some (.slice M3 Z.length capm3) := (blk_cell HD10.out 6).trans rfl
      go_wp2_with fail
      refine (cSame_calls code line col cnt T B3 capb3 X M3 capm3 Z code line col cnt T B capb X M capm Y _ HT10.out HC8.out HM10.out HZM.out R10.out.t HCB.out R10.out.m HYM.out).mono ?_
      rintro e w11 ⟨rfl, hb5⟩
      rw [HCN.out]
      have HB11 := Aside0.mk (below_then HB10.out HB10.out.size hb5)
      clear hb5
      go_wp2
      go_ret
      exact ⟨rfl, HB11.out⟩
end Go.Proofs.Ytnajmemcdipknaa.PK
