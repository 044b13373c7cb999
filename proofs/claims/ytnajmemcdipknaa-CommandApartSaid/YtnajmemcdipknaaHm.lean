/- An append of texts as one step of a region that draws its order; a command as it lies behind 'append([]string{}, x.Word...)'. Condition: none.
CommandPuts, the walk. Condition: none. -/
import Derived.Test.YtnajmemcdipknaaHj
import Derived.Deep.AppendLies
import Derived.Test.YtnajmemcdipknaaHl
import Derived.Deep.RegionHeld3
namespace Go.Proofs.Ytnajmemcdipknaa.PK
open Go.RowKit Go.Proofs.YtnajmemcdipknaaW.PrintWords Go.Proofs.YtnajmemcdipknaaW.PrintLast Go.Proofs.YtnajmemcdipknaaW.PrintMore
open Go.ChangeShapes Go.WideShapes
set_option linter.unusedVariables false
set_option linter.unusedSimpArgs false
set_option maxRecDepth 100000
theorem info9s : (Try.prog.info? 9).map (fun i => (i.zero, i.size, i.bytes)) = some (some (.string ByteArray.empty), 1, 16) := by kernel_rfl
theorem own_empty {w : World} {base g e : Nat} (h : w.heap[g]? = some (.cells #[] e (0, 0))) (hb : base ≤ g) : w.ownsRow base e 1 (.slice (some ⟨g, 0, none⟩) 0 0) 0 [] :=
  ⟨rfl, .inr ⟨g, 0, #[], rfl, hb, h, Nat.le_refl _, by decide, rfl, rfl⟩⟩
theorem run_append_texts (W : World) (ty : TypeId) (base : Nat) (v : Value) (A : Option Addr) (cap : Nat) (wd : List ByteArray) (hown : W.ownsRow base 9 1 v 0 []) (hr : Kd.C Kd.string W A wd.length wd) (hbase : base ≤ W.heap.size) (hl : wd.length ≤ 8796093022208) :
    ∃ v1 w1, (Builtin.append_ #[22, 22] ty #[v, .slice A wd.length cap]).run Try.prog W = .ok v1 w1 ∧ w1.ownsRow base 9 1 v1 wd.length (encs Value.string wd) ∧ W.grownBy w1 v.ownBlock := by
  obtain ⟨i0, hi, hzz⟩ := Option.map_eq_some_iff.1 info9s
  simp only [Prod.mk.injEq] at hzz
  obtain ⟨hz0, hz1, hz2⟩ := hzz
  have HR := Kd.reads_of_C (d := ByteArray.empty) hr
  rcases A with _ | ad
  · have h0 : wd = [] := by
      rcases Nat.eq_zero_or_pos wd.length with h0 | h0
      · exact List.eq_nil_of_length_eq_zero h0
      · obtain ⟨ad, h, _⟩ := HR.2.2 h0
        cases h
    subst h0
    refine ⟨v, W, ?_, hown, World.grownBy.refl W _⟩
    rcases hown.2 with ⟨rfl, hn⟩ | ⟨g, c, cur, rfl, _, _, hnc, _⟩ <;> simp [Builtin.append_, run_underlying Try.underlying22, sizeOf, typeInfo, hi, Builtin.lenOf, Builtin.firstCells, storeCells]
  · obtain ⟨v1, w1, h1, h2, h3, _, _⟩ := run_append_own_at (P := Try.prog) W base 22 ty 9 i0 (.string ByteArray.empty) 1 16 Try.underlying22 hi hz0 hz1 hz2 rfl (by decide) v 0 [] hown ad wd.length cap (encs Value.string wd) (by rw [encs_length]; omega)
      (fun j u hu => by
        have hj : j < wd.length := by
          have := (List.getElem?_eq_some_iff.1 hu).1
          rwa [encs_length] at this
        obtain ⟨ad', e, hc⟩ := HR.2.2 (by omega)
        cases e
        rw [encs_get (d := ByteArray.empty) _ _ hj] at hu
        rw [← hu]
        exact hc j hj)
      (fun u hu => by
        simp only [encs, List.mem_map] at hu
        obtain ⟨s, _, rfl⟩ := hu
        rfl) (by simp only [maxLen]; omega) (by omega) hbase
    exact ⟨v1, w1, h1, by simpa using h2, h3⟩
theorem step_append_texts {ops : Array Oper} {o : Oper} {a : Act} {W : World} {K : Act → World → Prop} {Q : Exit → Act → World → Prop} {E : Prop} (hgd : o.guard = none) (s x : Operand)
    (ho : o.op = .call { callee := .builtin .append, args := #[s, x], argTypes := #[22, 22] })
    (base : Nat) (v : Value) (A : Option Addr) (cap : Nat) (wd : List ByteArray) (hs : a.eval s = v) (hx : a.eval x = .slice A wd.length cap)
    (hown : W.ownsRow base 9 1 v 0 []) (hr : Kd.C Kd.string W A wd.length wd) (hbase : base ≤ W.heap.size) (hl : wd.length ≤ 8796093022208)
    (h : ∀ B c1 w1, w1.ownsRow base 9 1 (.slice B wd.length c1) wd.length (encs Value.string wd) → W.grownBy w1 v.ownBlock → K (a.put o.dst (.slice B wd.length c1)) w1) :
    if Region.wanted o (yielded ops a.tmps) = true then Oper.wp Try.prog o a W K Q else E := by
  have hw : Region.wanted o (yielded ops a.tmps) = true := by simp [Region.wanted, hgd]
  rw [if_pos hw]
  obtain ⟨v1, w1, h1, h2, h3⟩ := run_append_texts W o.type base v A cap wd hown hr hbase hl
  obtain ⟨B, c1, rfl, _⟩ := own_reads_of (d := ByteArray.empty) h2
  unfold Oper.wp execOp
  simp only [ho, resolve, invoke, builtin, Sem.run_bind, Sem.run_pure, Result.andThen_ok, List.map_toArray, List.map_cons, List.map_nil, hs, hx, h1]
  exact h B c1 w1 h2 h3
theorem step_append_new {ops : Array Oper} {o : Oper} {a : Act} {W : World} {K : Act → World → Prop} {Q : Exit → Act → World → Prop} {E : Prop} (hgd : o.guard = none) (s x : Operand)
    (ho : o.op = .call { callee := .builtin .append, args := #[s, x], argTypes := #[22, 22] })
    (base g : Nat) (A : Option Addr) (cap : Nat) (wd : List ByteArray) (hs : a.eval s = .slice (some ⟨g, 0, none⟩) 0 0) (hx : a.eval x = .slice A wd.length cap)
    (hg : W.heap[g]? = some (.cells #[] 9 (0, 0))) (hb : base ≤ g) (hr : Kd.C Kd.string W A wd.length wd) (hl : wd.length ≤ 8796093022208)
    (h : ∀ B c1 w1, w1.ownsRow base 9 1 (.slice B wd.length c1) wd.length (encs Value.string wd) → W.grownBy w1 (some g) → K (a.put o.dst (.slice B wd.length c1)) w1) :
    if Region.wanted o (yielded ops a.tmps) = true then Oper.wp Try.prog o a W K Q else E :=
  step_append_texts hgd s x ho base _ A cap wd hs hx (own_empty hg hb) hr (by have := lt_of_some hg; omega) hl h
theorem heap_drew' (W : World) (k : Nat) : W.drew.heap[k]? = W.heap[k]? := rfl
theorem heap_new' {W : World} {o : Obj} {n : Nat} (h : W.heap.size = n) : (W.alloc o).heap[n]? = some o := by subst h; exact heap_alloc_new W o
theorem own_C {W : World} {base : Nat} {B : Option Addr} {c1 : Nat} {wd : List ByteArray} (h : W.ownsRow base 9 1 (.slice B wd.length c1) wd.length (encs Value.string wd)) : Kd.C Kd.string W B wd.length wd ∧ wd.length ≤ c1 := by
  obtain ⟨B', c', he, hl, hR⟩ := own_reads_of_le (d := ByteArray.empty) h
  injection he with h1 h2 h3
  subst h1; subst h3
  exact ⟨Kd.C_of_reads (d := ByteArray.empty) hR, hl⟩
theorem box10 {W : World} {g : Nat} {T : TypeId} {c0 c1 c2 c3 c4 c5 c6 c7 c8 c9 : Value} (h : W.heap[g]? = some (.cells #[c0, c1, c2, c3, c4, c5, c6, c7, c8, c9] T (0, 0))) :
    W.cell? ⟨g, 0, none⟩ = some c0 ∧ W.cell? ⟨g, 1, none⟩ = some c1 ∧ W.cell? ⟨g, 2, none⟩ = some c2 ∧ W.cell? ⟨g, 3, none⟩ = some c3 ∧ W.cell? ⟨g, 4, none⟩ = some c4 ∧ W.cell? ⟨g, 5, none⟩ = some c5 ∧ W.cell? ⟨g, 6, none⟩ = some c6 ∧ W.cell? ⟨g, 7, none⟩ = some c7 ∧ W.cell? ⟨g, 8, none⟩ = some c8 ∧ W.cell? ⟨g, 9, none⟩ = some c9 := by
  refine ⟨?_, ?_, ?_, ?_, ?_, ?_, ?_, ?_, ?_, ?_⟩ <;> exact (blk_cell h _).trans rfl
theorem box20 {W : World} {g : Nat} {T : TypeId} {c0 c1 c2 c3 c4 c5 c6 c7 c8 c9 : Value} (h : W.heap[g]? = some (.cells #[c0, c1, c2, c3, c4, c5, c6, c7, c8, c9] T (0, 0))) :
    W.cell? ⟨g, 0, none⟩ = some c0 ∧ W.cell? ⟨g, 1, none⟩ = some c1 ∧ W.cell? ⟨g, 2, none⟩ = some c2 ∧ W.cell? ⟨g, 3, none⟩ = some c3 ∧ W.cell? ⟨g, 4, none⟩ = some c4 ∧ W.cell? ⟨g, 5, none⟩ = some c5 ∧ W.cell? ⟨g, 6, none⟩ = some c6 ∧ W.cell? ⟨g, 7, none⟩ = some c7 ∧ W.cell? ⟨g, 8, none⟩ = some c8 ∧ W.cell? ⟨g, 9, none⟩ = some c9 ∧ W.frozen? ⟨g, 0, none⟩ = false ∧ W.frozen? ⟨g, 1, none⟩ = false ∧ W.frozen? ⟨g, 2, none⟩ = false ∧ W.frozen? ⟨g, 3, none⟩ = false ∧ W.frozen? ⟨g, 4, none⟩ = false ∧ W.frozen? ⟨g, 5, none⟩ = false ∧ W.frozen? ⟨g, 6, none⟩ = false ∧ W.frozen? ⟨g, 7, none⟩ = false ∧ W.frozen? ⟨g, 8, none⟩ = false ∧ W.frozen? ⟨g, 9, none⟩ = false := by
  refine ⟨?_, ?_, ?_, ?_, ?_, ?_, ?_, ?_, ?_, ?_, ?_, ?_, ?_, ?_, ?_, ?_, ?_, ?_, ?_, ?_⟩ <;> first | exact (blk_cell h _).trans rfl | exact blk_frozen h _
theorem boxes {W : World} {g g2 : Nat} {T T2 : TypeId} {c0 c1 c2 c3 c4 c5 c6 c7 c8 c9 d0 d1 d2 d3 d4 d5 d6 d7 d8 d9 : Value} (h : W.heap[g]? = some (.cells #[c0, c1, c2, c3, c4, c5, c6, c7, c8, c9] T (0, 0))) (h2 : W.heap[g2]? = some (.cells #[d0, d1, d2, d3, d4, d5, d6, d7, d8, d9] T2 (0, 0))) :
    W.cell? ⟨g, 0, none⟩ = some c0 ∧ W.cell? ⟨g, 1, none⟩ = some c1 ∧ W.cell? ⟨g, 2, none⟩ = some c2 ∧ W.cell? ⟨g, 3, none⟩ = some c3 ∧ W.cell? ⟨g, 4, none⟩ = some c4 ∧ W.cell? ⟨g, 5, none⟩ = some c5 ∧ W.cell? ⟨g, 6, none⟩ = some c6 ∧ W.cell? ⟨g, 7, none⟩ = some c7 ∧ W.cell? ⟨g, 8, none⟩ = some c8 ∧ W.cell? ⟨g, 9, none⟩ = some c9 ∧ W.cell? ⟨g2, 0, none⟩ = some d0 ∧ W.cell? ⟨g2, 1, none⟩ = some d1 ∧ W.cell? ⟨g2, 2, none⟩ = some d2 ∧ W.cell? ⟨g2, 3, none⟩ = some d3 ∧ W.cell? ⟨g2, 4, none⟩ = some d4 ∧ W.cell? ⟨g2, 5, none⟩ = some d5 ∧ W.cell? ⟨g2, 6, none⟩ = some d6 ∧ W.cell? ⟨g2, 7, none⟩ = some d7 ∧ W.cell? ⟨g2, 8, none⟩ = some d8 ∧ W.cell? ⟨g2, 9, none⟩ = some d9 := by
  refine ⟨?_, ?_, ?_, ?_, ?_, ?_, ?_, ?_, ?_, ?_, ?_, ?_, ?_, ?_, ?_, ?_, ?_, ?_, ?_, ?_⟩ <;> first | exact (blk_cell h _).trans rfl | exact (blk_cell h2 _).trans rfl
theorem zfar2 {w2 w3 : World} {o Z : Obj} (h : ((w2.alloc o).alloc Z).drew.grownBy w3 (some w2.heap.size)) : w3.heap[w2.heap.size + 1]? = some Z :=
  (h.block (w2.heap.size + 1) (by show _ < ((w2.alloc o).alloc Z).heap.size; simp) (by simp)).trans (heap_new' (W := w2.alloc o) (o := Z) (by simp))
theorem zfar3 {w2 w3 : World} {o Z : Obj} (h : ((w2.alloc Z).alloc o).drew.grownBy w3 (some (w2.heap.size + 1))) : w3.heap[w2.heap.size]? = some Z :=
  (h.block w2.heap.size (by show _ < ((w2.alloc Z).alloc o).heap.size; simp; omega) (by simp)).trans ((heap_alloc_old (w2.alloc Z) o (by simp)).trans (heap_new' rfl))
theorem below_row {w2 W w3 : World} {g : Nat} (h : Below w2.heap.size w2 W) (hg : W.grownBy w3 (some g)) (h1 : w2.heap.size ≤ g) : Below w2.heap.size w2 w3 :=
  h.grown hg h.size (fun k hk => by injection hk with hk; omega)
/-- A command lies in a block of its own, its words copied. -/
def MadeC (w2 wc : World) (x : CmdV) (v : Value) : Prop :=
  ∃ g B c1, v = .pointer (some ⟨g, 0, none⟩) ∧ wc.heap[g]? = some (.cells (cellsV x B c1) 28 (0, 0)) ∧ Kd.C Kd.string wc B x.wd.length x.wd ∧ x.wd.length ≤ c1 ∧ Below w2.heap.size w2 wc ∧ w2.heap.size ≤ g
section
variable {k : Int} {who nm ot tx : ByteArray} {wd : List ByteArray} {a b c d : Int}
theorem made1 {w2 w3 : World} {B : Option Addr} {c1 : Nat} (h : Below w2.heap.size w2 w3) (how : w3.ownsRow w2.heap.size 9 1 (.slice B wd.length c1) wd.length (encs Value.string wd)) :
    MadeC w2 (w3.alloc (.cells #[.int .i64 k, .string who, .string nm, .string ot, .string tx, .slice B wd.length c1, .int .i64 a, .int .i64 b, .int .i64 c, .int .i64 d] 28)) ⟨k, who, nm, ot, tx, wd, a, b, c, d⟩ (.pointer (some ⟨w3.heap.size, 0, none⟩)) :=
  ⟨w3.heap.size, B, c1, rfl, heap_new' rfl, Kd.C_alloc (own_C how).1 _, (own_C how).2, h.alloc h.size _, h.size⟩
theorem made2 {w2 w3 : World} {B : Option Addr} {c1 g : Nat} {z0 z1 z2 z3 z4 z5 z6 z7 z8 z9 : Value} (h : Below w2.heap.size w2 w3) (how : w3.ownsRow w2.heap.size 9 1 (.slice B wd.length c1) wd.length (encs Value.string wd)) (hz : w3.heap[g]? = some (.cells #[z0, z1, z2, z3, z4, z5, z6, z7, z8, z9] 28 (0, 0))) (hg : w2.heap.size ≤ g) :
    MadeC w2 ((((((((((w3.setCell ⟨g, 0, none⟩ (.int .i64 k)).setCell ⟨g, 1, none⟩ (.string who)).setCell ⟨g, 2, none⟩ (.string nm)).setCell ⟨g, 3, none⟩ (.string ot)).setCell ⟨g, 4, none⟩ (.string tx)).setCell ⟨g, 5, none⟩ (.slice B wd.length c1)).setCell ⟨g, 6, none⟩ (.int .i64 a)).setCell ⟨g, 7, none⟩ (.int .i64 b)).setCell ⟨g, 8, none⟩ (.int .i64 c)).setCell ⟨g, 9, none⟩ (.int .i64 d)) ⟨k, who, nm, ot, tx, wd, a, b, c, d⟩ (.pointer (some ⟨g, 0, none⟩)) := by
  have ho := own_C (own_move how (fun q hk => put10_far (.int .i64 k) (.string who) (.string nm) (.string ot) (.string tx) (.slice B wd.length c1) (.int .i64 a) (.int .i64 b) (.int .i64 c) (.int .i64 d) q (fun e => own_ne how hz (by decide) (by rw [hk, e]))))
  exact ⟨g, B, c1, rfl, put10 hz _ _ _ _ _ _ _ _ _ _, ho.1, ho.2, below_set (below_set (below_set (below_set (below_set (below_set (below_set (below_set (below_set (below_set h hg) hg) hg) hg) hg) hg) hg) hg) hg) hg, hg⟩
end
end Go.Proofs.Ytnajmemcdipknaa.PK
namespace Go.Proofs.Ytnajmemcdipknaa.PK
open Go.RowKit Go.Proofs.YtnajmemcdipknaaW.PrintWords Go.Proofs.YtnajmemcdipknaaW.PrintLast Go.Proofs.YtnajmemcdipknaaW.PrintMore
open Go.ChangeShapes Go.WideShapes
set_option linter.unusedVariables false
set_option linter.unusedSimpArgs false
set_option maxRecDepth 100000
theorem large_facts {who nm ot tx : ByteArray} {wd : List ByteArray} (h : large21 who nm ot tx wd = false) : wd.length ≤ 80 ∧ tx.size ≤ 3000 := by
  unfold large21 at h
  simp only [Bool.or_eq_false_iff, decide_eq_false_iff_not] at h
  omega
theorem putC_pos {k : Int} {who nm ot tx : ByteArray} {wd : List ByteArray} {a b c d : Int} (h : goodC k who nm ot tx wd a b c d = true) : (putC k who nm ot tx wd a b c d).size ≠ 0 := by
  obtain ⟨⟨f1, f2⟩, _⟩ := good_facts h
  unfold putC
  rw [if_pos h, strOfNums_size]
  obtain ⟨sg, m, K, hp, _⟩ := putL_form k (by omega)
  unfold cmdL
  rw [hp]
  simp
set_option maxHeartbeats 6400000 in
theorem puts21_calls (k : Int) (who nm ot tx : ByteArray) (A : Option Addr) (cap : Nat) (wd : List ByteArray) (a b c d : Int) (w : World) (hr : Kd.C Kd.string w A wd.length wd) (hc : wd.length ≤ cap) (hs : who.size ≤ 9223372036854775807 ∧ nm.size ≤ 9223372036854775807 ∧ ot.size ≤ 9223372036854775807)
    (hna : -9223372036854775808 ≤ a ∧ a ≤ 9223372036854775807) (hnb : -9223372036854775808 ≤ b ∧ b ≤ 9223372036854775807) (hnc : -9223372036854775808 ≤ c ∧ c ≤ 9223372036854775807) (hnd : -9223372036854775808 ≤ d ∧ d ≤ 9223372036854775807) :
    Calls Try.prog 3 #[.agg #[.int .i64 k, .string who, .string nm, .string ot, .string tx, .slice A wd.length cap, .int .i64 a, .int .i64 b, .int .i64 c, .int .i64 d]] w fun e w' => e = .returned (.bool true) ∧ Below w.heap.size w w' := by
  have hu := Try.underlying25
  have hu2 := Try.underlying28
  have hu3 := Try.underlying29
  have HR := Aside0.mk hr
  have HC := Aside0.mk hc
  have HSZ := Aside0.mk hs
  have HNN := Aside0.mk (And.intro hna (And.intro hnb (And.intro hnc hnd)))
  clear hr hc hs hna hnb hnc hnd
  have HB0 := Aside0.mk (below_alloc (Below.refl w.heap.size w) (.cells #[.int .i64 k, .string who, .string nm, .string ot, .string tx, .slice A wd.length cap, .int .i64 a, .int .i64 b, .int .i64 c, .int .i64 d] 25))
  have HX0 := Aside0.mk (heap_alloc_new w (.cells #[.int .i64 k, .string who, .string nm, .string ot, .string tx, .slice A wd.length cap, .int .i64 a, .int .i64 b, .int .i64 c, .int .i64 d] 25))
  have HZ0 := Aside0.mk (show (w.alloc (.cells #[.int .i64 k, .string who, .string nm, .string ot, .string tx, .slice A wd.length cap, .int .i64 a, .int .i64 b, .int .i64 c, .int .i64 d] 25)).heap.size = w.heap.size + 1 by simp)
  go_enter Try.func3, Try.ntmps3
  go_wp2_with fail
  refine (speaks21_calls _).mono ?_
  rintro e w1 ⟨rfl, hb1⟩
  have HX1 := Aside0.mk ((hb1.block w.heap.size (by rw [HZ0.out]; omega)).trans HX0.out)
  have HB1 := Aside0.mk (below_then HB0.out HB0.out.size hb1)
  clear hb1
  have z1_0 : w1.cell? ⟨w.heap.size, 0, none⟩ = some (.int .i64 k) := (blk_cell HX1.out 0).trans rfl
  have z1_1 : w1.cell? ⟨w.heap.size, 1, none⟩ = some (.string who) := (blk_cell HX1.out 1).trans rfl
  have z1_2 : w1.cell? ⟨w.heap.size, 2, none⟩ = some (.string nm) := (blk_cell HX1.out 2).trans rfl
  have z1_3 : w1.cell? ⟨w.heap.size, 3, none⟩ = some (.string ot) := (blk_cell HX1.out 3).trans rfl
  have z1_4 : w1.cell? ⟨w.heap.size, 4, none⟩ = some (.string tx) := (blk_cell HX1.out 4).trans rfl
  have z1_5 : w1.cell? ⟨w.heap.size, 5, none⟩ = some (.slice A wd.length cap) := (blk_cell HX1.out 5).trans rfl
  have z1_6 : w1.cell? ⟨w.heap.size, 6, none⟩ = some (.int .i64 a) := (blk_cell HX1.out 6).trans rfl
  have z1_7 : w1.cell? ⟨w.heap.size, 7, none⟩ = some (.int .i64 b) := (blk_cell HX1.out 7).trans rfl
  have z1_8 : w1.cell? ⟨w.heap.size, 8, none⟩ = some (.int .i64 c) := (blk_cell HX1.out 8).trans rfl
  have z1_9 : w1.cell? ⟨w.heap.size, 9, none⟩ = some (.int .i64 d) := (blk_cell HX1.out 9).trans rfl
  go_wp2_with fail
  refine (large21_calls k who nm ot tx A cap wd a b c d _ (Kd.C_below HR.out HB1.out) HC.out).mono ?_
  rintro e w2 ⟨rfl, hb2⟩
  have HX2 := Aside0.mk ((hb2.block w.heap.size (blk_lt HX1.out)).trans HX1.out)
  have HB2 := Aside0.mk (below_then HB1.out HB1.out.size hb2)
  clear hb2
  cases hl : large21 who nm ot tx wd
  rotate_left
  · go_wp2
    go_ret
    exact ⟨rfl, HB2.out⟩
  have z2_0 : w2.cell? ⟨w.heap.size, 0, none⟩ = some (.int .i64 k) := (blk_cell HX2.out 0).trans rfl
  have z2_1 : w2.cell? ⟨w.heap.size, 1, none⟩ = some (.string who) := (blk_cell HX2.out 1).trans rfl
  have z2_2 : w2.cell? ⟨w.heap.size, 2, none⟩ = some (.string nm) := (blk_cell HX2.out 2).trans rfl
  have z2_3 : w2.cell? ⟨w.heap.size, 3, none⟩ = some (.string ot) := (blk_cell HX2.out 3).trans rfl
  have z2_4 : w2.cell? ⟨w.heap.size, 4, none⟩ = some (.string tx) := (blk_cell HX2.out 4).trans rfl
  have z2_5 : w2.cell? ⟨w.heap.size, 5, none⟩ = some (.slice A wd.length cap) := (blk_cell HX2.out 5).trans rfl
  have z2_6 : w2.cell? ⟨w.heap.size, 6, none⟩ = some (.int .i64 a) := (blk_cell HX2.out 6).trans rfl
  have z2_7 : w2.cell? ⟨w.heap.size, 7, none⟩ = some (.int .i64 b) := (blk_cell HX2.out 7).trans rfl
  have z2_8 : w2.cell? ⟨w.heap.size, 8, none⟩ = some (.int .i64 c) := (blk_cell HX2.out 8).trans rfl
  have z2_9 : w2.cell? ⟨w.heap.size, 9, none⟩ = some (.int .i64 d) := (blk_cell HX2.out 9).trans rfl
  have HL := Aside0.mk (large_facts hl)
  clear hl
  have hlt : w.heap.size < w2.heap.size := blk_lt HX2.out
  go_upto_region 5 with (fail)
  go_cut [3] (fun v3 wc => MadeC w2 wc ⟨k, who, nm, ot, tx, wd, a, b, c, d⟩ v3)
  case first =>
    go_region_held3 (fun w' => w'.cell? ⟨w.heap.size, 0, none⟩ = some (.int .i64 k) ∧ w'.cell? ⟨w.heap.size, 1, none⟩ = some (.string who) ∧ w'.cell? ⟨w.heap.size, 2, none⟩ = some (.string nm) ∧ w'.cell? ⟨w.heap.size, 3, none⟩ = some (.string ot) ∧ w'.cell? ⟨w.heap.size, 4, none⟩ = some (.string tx) ∧ w'.cell? ⟨w.heap.size, 5, none⟩ = some (.slice A wd.length cap) ∧ w'.cell? ⟨w.heap.size, 6, none⟩ = some (.int .i64 a) ∧ w'.cell? ⟨w.heap.size, 7, none⟩ = some (.int .i64 b) ∧ w'.cell? ⟨w.heap.size, 8, none⟩ = some (.int .i64 c) ∧ w'.cell? ⟨w.heap.size, 9, none⟩ = some (.int .i64 d)) (first
        | (with_reducible exact box10 HX3.out)
        | (with_reducible exact box10 ((heap_alloc_old _ _ (blk_lt HX3.out)).trans HX3.out))
        | (with_reducible exact box10 (blk_drew HX3.out))
        | (with_reducible exact box10 (blk_drew ((heap_alloc_old _ _ (blk_lt HX3.out)).trans HX3.out)))
        | (with_reducible exact box10 ((put10_far _ _ _ _ _ _ _ _ _ _ _ (by omega)).trans HX3.out))
        | (with_reducible exact box10 ((put10_far _ _ _ _ _ _ _ _ _ _ _ (by omega)).trans (blk_drew HX3.out)))
        | go_keep)
      ((refine step_append_new (by rfl) _ _ (by rfl) w2.heap.size _ A cap wd (by rfl) (by rfl) ?_ ?_ ?_ ?_ ?_; (repeat (first | exact heap_new' (by first | rfl | simp) | (with_reducible refine (heap_drew' _ _).trans ?_) | (with_reducible refine (heap_alloc_old _ _ (by first | omega | (simp; omega) | simp)).trans ?_))); (omega); (repeat (first | exact Kd.C_below HR.out HB2.out | apply Kd.C_alloc | apply Kd.C_drew)); (have := HL.out; omega); intro B c1 w3 hown hgr; have HX3 : Aside0 (w3.heap[w.heap.size]? = some (.cells #[.int .i64 k, .string who, .string nm, .string ot, .string tx, .slice A wd.length cap, .int .i64 a, .int .i64 b, .int .i64 c, .int .i64 d] 25 (0, 0))) := Aside0.mk (blk_grown (by (repeat (first | exact HX2.out | (with_reducible refine (heap_drew' _ _).trans ?_) | (with_reducible refine (heap_alloc_old _ _ (by first | omega | (simp; omega))).trans ?_)))) hgr (by simp only [Option.some.injEq, ne_eq]; omega)); (first | (have HN := zfar2 hgr; have HN2 := box20 HN; have HZ := Aside0.mk HN; clear HN; obtain ⟨n0, n1, n2, n3, n4, n5, n6, n7, n8, n9, m0, m1, m2, m3, m4, m5, m6, m7, m8, m9⟩ := HN2) | (have HN := zfar3 hgr; have HN2 := box20 HN; have HZ := Aside0.mk HN; clear HN; obtain ⟨n0, n1, n2, n3, n4, n5, n6, n7, n8, n9, m0, m1, m2, m3, m4, m5, m6, m7, m8, m9⟩ := HN2) | skip); have HG := Aside0.mk (below_row (w2 := w2) (by repeat (first | exact Below.refl _ _ | (with_reducible apply below_drew) | (with_reducible apply below_alloc))) hgr (by omega)); have HOW := Aside0.mk hown; clear hgr hown))
    all_goals
      go_wp2_with fail
      go_meet
      case rel =>
        first
        | (with_reducible exact made1 HG.out HOW.out)
        | (with_reducible exact made2 HG.out HOW.out HZ.out (by omega))
  case rest =>
    obtain ⟨wm, rfl⟩ : ∃ wm : World, wm = wc := ⟨_, rfl⟩
    obtain ⟨g, B, c1, rfl, hg, hB, hcB, hbel, hle⟩ := hcut
    have hg : wm.heap[g]? = some (.cells #[.int .i64 k, .string who, .string nm, .string ot, .string tx, .slice B wd.length c1, .int .i64 a, .int .i64 b, .int .i64 c, .int .i64 d] 28 (0, 0)) := hg
    have hB : Kd.C Kd.string wm B wd.length wd := hB
    have hcB : wd.length ≤ c1 := hcB
    have HX3 := Aside0.mk ((hbel.block w.heap.size hlt).trans HX2.out)
    have HB3 := Aside0.mk (below_then HB2.out HB2.out.size hbel)
    have HA3 := Aside0.mk (Kd.C_below HR.out HB3.out)
    have HG3 := Aside0.mk hg
    have HBC := Aside0.mk hB
    have HCB := Aside0.mk hcB
    have hgl : g < wm.heap.size := blk_lt hg
    clear hg hB hcB hbel hle
    obtain ⟨x0, x1, x2, x3, x4, x5, x6, x7, x8, x9⟩ := box10 HX3.out
    obtain ⟨y0, y1, y2, y3, y4, y5, y6, y7, y8, y9⟩ := box10 HG3.out
    obtain ⟨gd, hgd⟩ : ∃ gd, goodC k who nm ot tx wd a b c d = gd := ⟨_, rfl⟩
    have HGD := Aside0.mk hgd
    clear hgd
    go_wp2_with fail
    (with_reducible refine (cPut_calls k who nm ot tx B c1 wd a b c d _ HSZ.out.1 HSZ.out.2.1 HSZ.out.2.2 (Kd.C_alloc HBC.out _) HCB.out).mono ?_)
    rintro e w4 ⟨rfl, hb4⟩
    have HG4 := Aside0.mk ((hb4.block g (by simp; omega)).trans ((heap_alloc_old _ _ hgl).trans HG3.out))
    have HD4 : Aside0 (w4.heap[wm.heap.size]? = some (.cells #[.int .i64 k, .string who, .string nm, .string ot, .string tx, .slice A wd.length cap, .int .i64 a, .int .i64 b, .int .i64 c, .int .i64 d] 29 (0, 0))) := ⟨(hb4.block wm.heap.size (by simp)).trans (heap_new' rfl)⟩
    have HB4 := Aside0.mk (below_then (below_alloc HB3.out _) (Nat.le_of_lt_succ (by have := HB3.out.size; simp; omega)) hb4)
    have hdl : wm.heap.size < w4.heap.size := blk_lt HD4.out
    have HBC4 := Aside0.mk (Kd.C_below HBC.out ((below_alloc (Below.refl wm.heap.size wm) (.cells #[.int .i64 k, .string who, .string nm, .string ot, .string tx, .slice A wd.length cap, .int .i64 a, .int .i64 b, .int .i64 c, .int .i64 d] 29)).trans (hb4.mono (by simp))))
    clear hb4
    obtain ⟨S, hS⟩ : ∃ S, putC k who nm ot tx wd a b c d = S := ⟨_, rfl⟩
    have HS := Aside0.mk hS
    rw [hS]
    clear hS
    have hss : (S.toList != S.toList) = false := by simp
    obtain ⟨p0, p1, p2, p3, p4, p5, p6, p7, p8, p9⟩ := box10 HG4.out
    obtain ⟨q0, q1, q2, q3, q4, q5, q6, q7, q8, q9⟩ := box10 HD4.out
    have hng : ∀ b : Bool, (b != b) = false := fun b => by cases b <;> rfl
    have hgg := hng gd
    clear hng
    have HA4 := Aside0.mk (Kd.C_below HR.out HB4.out)
    have HWc := Aside0.mk (Below.refl w4.heap.size w4)
    go_upto_region 8 with (fail)
    go_cut [56] (fun v56 wx => v56 = .bool false ∧ Aside0 (Below w4.heap.size w4 wx))
    case first =>
      go_region_held3 (fun w' => w'.cell? ⟨g, 0, none⟩ = some (.int .i64 k) ∧ w'.cell? ⟨g, 1, none⟩ = some (.string who) ∧ w'.cell? ⟨g, 2, none⟩ = some (.string nm) ∧ w'.cell? ⟨g, 3, none⟩ = some (.string ot) ∧ w'.cell? ⟨g, 4, none⟩ = some (.string tx) ∧ w'.cell? ⟨g, 5, none⟩ = some (.slice B wd.length c1) ∧ w'.cell? ⟨g, 6, none⟩ = some (.int .i64 a) ∧ w'.cell? ⟨g, 7, none⟩ = some (.int .i64 b) ∧ w'.cell? ⟨g, 8, none⟩ = some (.int .i64 c) ∧ w'.cell? ⟨g, 9, none⟩ = some (.int .i64 d) ∧ w'.cell? ⟨wm.heap.size, 0, none⟩ = some (.int .i64 k) ∧ w'.cell? ⟨wm.heap.size, 1, none⟩ = some (.string who) ∧ w'.cell? ⟨wm.heap.size, 2, none⟩ = some (.string nm) ∧ w'.cell? ⟨wm.heap.size, 3, none⟩ = some (.string ot) ∧ w'.cell? ⟨wm.heap.size, 4, none⟩ = some (.string tx) ∧ w'.cell? ⟨wm.heap.size, 5, none⟩ = some (.slice A wd.length cap) ∧ w'.cell? ⟨wm.heap.size, 6, none⟩ = some (.int .i64 a) ∧ w'.cell? ⟨wm.heap.size, 7, none⟩ = some (.int .i64 b) ∧ w'.cell? ⟨wm.heap.size, 8, none⟩ = some (.int .i64 c) ∧ w'.cell? ⟨wm.heap.size, 9, none⟩ = some (.int .i64 d)) (first | (with_reducible exact boxes ((HWc.out.block g (blk_lt HG4.out)).trans HG4.out) ((HWc.out.block wm.heap.size hdl).trans HD4.out)) | (with_reducible exact boxes (blk_drew ((HWc.out.block g (blk_lt HG4.out)).trans HG4.out)) (blk_drew ((HWc.out.block wm.heap.size hdl).trans HD4.out))) | go_keep) (first
        | (go_at_call 15; (with_reducible refine (cGood_calls k who nm ot tx B c1 wd a b c d _ HSZ.out.1 HSZ.out.2.1 HSZ.out.2.2 (Kd.C_below HBC4.out (by first | exact HWc.out | exact below_drew HWc.out | exact pw_below_drewN HWc.out _)) HCB.out).mono ?_); rintro e w5 ⟨rfl, hb5⟩; rw [HGD.out]; have HWn := Aside0.mk (below_then (by first | exact HWc.out | exact below_drew HWc.out | exact pw_below_drewN HWc.out _) (by first | exact HWc.out.size | exact (below_drew HWc.out).size | exact (pw_below_drewN HWc.out _).size) hb5); clear HWc hb5; have HWc := HWn; clear HWn)
        | (go_at_call 16; (with_reducible refine (rGood_calls k who nm ot tx A cap wd a b c d _ HSZ.out.1 HSZ.out.2.1 HSZ.out.2.2 (Kd.C_below HA4.out (by first | exact HWc.out | exact below_drew HWc.out | exact pw_below_drewN HWc.out _)) HC.out HNN.out.1 HNN.out.2.1 HNN.out.2.2.1 HNN.out.2.2.2).mono ?_); rintro e w5 ⟨rfl, hb5⟩; rw [HGD.out]; have HWn := Aside0.mk (below_then (by first | exact HWc.out | exact below_drew HWc.out | exact pw_below_drewN HWc.out _) (by first | exact HWc.out.size | exact (below_drew HWc.out).size | exact (pw_below_drewN HWc.out _).size) hb5); clear HWc hb5; have HWc := HWn; clear HWn)
        | (go_at_call 17; (with_reducible refine (rPut_calls k who nm ot tx A cap wd a b c d _ HSZ.out.1 HSZ.out.2.1 HSZ.out.2.2 (Kd.C_below HA4.out (by first | exact HWc.out | exact below_drew HWc.out | exact pw_below_drewN HWc.out _)) HC.out HNN.out.1 HNN.out.2.1 HNN.out.2.2.1 HNN.out.2.2.2).mono ?_); rintro e w5 ⟨rfl, hb5⟩; rw [HS.out]; have HWn := Aside0.mk (below_then (by first | exact HWc.out | exact below_drew HWc.out | exact pw_below_drewN HWc.out _) (by first | exact HWc.out.size | exact (below_drew HWc.out).size | exact (pw_below_drewN HWc.out _).size) hb5); clear HWc hb5; have HWc := HWn; clear HWn))
      all_goals
        go_wp2_with fail
        go_meet
        case rel => exact ⟨rfl, ⟨by first | exact HWc.out | exact below_drew HWc.out | exact pw_below_drewN HWc.out _⟩⟩
    case rest =>
      obtain ⟨wx, rfl⟩ : ∃ wx : World, wx = wc := ⟨_, rfl⟩
      obtain ⟨rfl, HWx⟩ := hcut
      have HDx := Aside0.mk ((HWx.out.block wm.heap.size hdl).trans HD4.out)
      have HBx := Aside0.mk (below_then HB4.out HB4.out.size HWx.out)
      have HAx := Aside0.mk (Kd.C_below HA4.out HWx.out)
      have hlx : wm.heap.size < wx.heap.size := blk_lt HDx.out
      obtain ⟨r0, r1, r2, r3, r4, r5, r6, r7, r8, r9⟩ := box10 HDx.out
      cases gd
      · obtain rfl : S = ⟨#[]⟩ := by rw [← HS.out]; unfold putC; rw [if_neg (by rw [HGD.out]; simp)]
        go_wp2_with fail
        (with_reducible refine (rGood_calls k who nm ot tx A cap wd a b c d _ HSZ.out.1 HSZ.out.2.1 HSZ.out.2.2 HAx.out HC.out HNN.out.1 HNN.out.2.1 HNN.out.2.2.1 HNN.out.2.2.2).mono ?_)
        rintro e w7 ⟨rfl, hb7⟩
        rw [HGD.out]
        have HB7 := Aside0.mk (below_then HBx.out HBx.out.size hb7)
        clear hb7
        go_wp2
        go_ret
        exact ⟨rfl, HB7.out⟩
      · have hpos : S.size ≠ 0 := by
          rw [← HS.out]
          exact putC_pos HGD.out
        have m1 : (S.toList == ([] : List UInt8)) = false := by rw [beq_eq_false_iff_ne]; exact fun h => hpos ((toList_nil_iff S).mp h)
        have m2 : S.toList.isEmpty = false := isEmpty_false hpos
        clear hpos
        have HGET : Aside0 (getC S = (⟨k, who, nm, ot, tx, wd, a, b, c, d⟩, 0)) := ⟨by rw [← HS.out]; exact get_put_cmd _ _ _ _ _ _ _ _ _ _ HGD.out⟩
        go_wp2_with fail
        refine (cGet_told k who nm ot tx wd a b c d S 0 HGET.out _).mono ?_
        rintro e w7 ⟨A2, c2, rfl, hA2, hc2, hb7⟩
        have HD7 := Aside0.mk ((hb7.block wm.heap.size hlx).trans HDx.out)
        have HB7 := Aside0.mk (below_then HBx.out HBx.out.size hb7)
        have HA7 := Aside0.mk (Kd.C_below HAx.out hb7)
        have HA2 := Aside0.mk hA2
        have HC2 := Aside0.mk hc2
        have hl7 : wm.heap.size < w7.heap.size := blk_lt HD7.out
        clear hA2 hc2 hb7
        obtain ⟨t0, t1, t2, t3, t4, t5, t6, t7, t8, t9⟩ := box10 HD7.out
        go_wp2_with fail
        refine (same21_refl k who nm ot tx wd a b c d A2 A c2 cap _ (Kd.C_alloc HA2.out _) HC2.out (Kd.C_alloc HA7.out _) HC.out).mono ?_
        rintro e w8 ⟨rfl, hb8⟩
        have HB8 := Aside0.mk (below_then (below_alloc HB7.out _) (Nat.le_of_lt_succ (by have := HB7.out.size; simp; omega)) hb8)
        clear hb8
        go_wp2
        go_ret
        exact ⟨rfl, HB8.out⟩
end Go.Proofs.Ytnajmemcdipknaa.PK
