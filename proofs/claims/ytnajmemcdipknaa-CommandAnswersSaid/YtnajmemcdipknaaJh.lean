/- Reading a command, in plain words, and what a reader's walk carries. Condition: none.
An append of texts as one step of a region that draws its order; a command as it lies behind 'append([]string{}, x.Word...)'. Condition: none.
command.PutReply, the walk. Condition: the marks are words of 64 bits.
command.Get, the walk: it tells getC. Condition: none.
Reading a reply, in plain words, and what a reader's walk carries. Condition: none. -/
import Derived.Test.YtnajmemcdipknaaJg
import Derived.Test.YtnajmemcdipknaaJf
import Derived.Deep.AppendLies
namespace Go.Proofs.Ytnajmemcdipknaa.PK
open Go.RowKit Go.Proofs.YtnajmemcdipknaaW.PrintWords Go.Proofs.YtnajmemcdipknaaW.PrintLast Go.Proofs.YtnajmemcdipknaaW.PrintMore
open Go.ChangeShapes Go.WideShapes
set_option linter.unusedVariables false
set_option linter.unusedSimpArgs false
set_option maxRecDepth 100000
structure CmdV where
  k : Int
  who : ByteArray
  nm : ByteArray
  ot : ByteArray
  tx : ByteArray
  wd : List ByteArray
  a : Int
  b : Int
  c : Int
  d : Int
def zeroV : CmdV := ⟨0, ⟨#[]⟩, ⟨#[]⟩, ⟨#[]⟩, ⟨#[]⟩, [], 0, 0, 0, 0⟩
def rk (s : ByteArray) := inInt s 0
def r1 (s : ByteArray) := inText (rk s).2.1 (rk s).2.2
def r2 (s : ByteArray) := inText (r1 s).2.1 (r1 s).2.2
def r3 (s : ByteArray) := inText (r2 s).2.1 (r2 s).2.2
def r4 (s : ByteArray) := inText (r3 s).2.1 (r3 s).2.2
def r5 (s : ByteArray) := inTexts (r4 s).2.1 (r4 s).2.2 64
def r6 (s : ByteArray) := inInt (r5 s).2.1 (r5 s).2.2
def r7 (s : ByteArray) := inInt (r6 s).2.1 (r6 s).2.2
def r8 (s : ByteArray) := inInt (r7 s).2.1 (r7 s).2.2
def r9 (s : ByteArray) := inInt (r8 s).2.1 (r8 s).2.2
def readC (s : ByteArray) : CmdV := ⟨(rk s).1, (r1 s).1, (r2 s).1, (r3 s).1, (r4 s).1, (r5 s).1, (r6 s).1, (r7 s).1, (r8 s).1, (r9 s).1⟩
def goodV (x : CmdV) : Bool := goodC x.k x.who x.nm x.ot x.tx x.wd x.a x.b x.c x.d
def getC (s : ByteArray) : CmdV × Int :=
  if (r9 s).2.2 ≠ 0 then (zeroV, (r9 s).2.2) else if goodV (readC s) = false then (zeroV, 2) else if (r9 s).2.1.size = 0 then (readC s, 0) else (zeroV, 4)
/-- The cells of a command. -/
def cellsV (x : CmdV) (A : Option Addr) (cap : Nat) : Array Value := #[.int .i64 x.k, .string x.who, .string x.nm, .string x.ot, .string x.tx, .slice A x.wd.length cap, .int .i64 x.a, .int .i64 x.b, .int .i64 x.c, .int .i64 x.d]
/-- What a reader's walk carries: the result's block, the reader's, the command's. -/
structure GetSt (w W : World) (gr gi gc : Nat) (TC TI : TypeId) (s : ByteArray) (e : Int) (cs zs : Array Value) : Prop where
  i : W.heap[gi]? = some (.cells #[.string s, .int .i64 e] TI (0, 0))
  c : W.heap[gc]? = some (.cells cs TC (0, 0))
  r : W.heap[gr]? = some (.cells zs TC (0, 0))
  b : Below w.heap.size w W
  lr : w.heap.size ≤ gr
  li : w.heap.size ≤ gi
  lc : w.heap.size ≤ gc
  nic : gi ≠ gc
  nri : gr ≠ gi
  nrc : gr ≠ gc
section
variable {w W W' : World} {gr gi gc : Nat} {TC TI : TypeId} {s s' : ByteArray} {e e' : Int} {cs zs : Array Value}
theorem GetSt.call (h : GetSt w W gr gi gc TC TI s e cs zs) (hi : W'.heap[gi]? = some (.cells #[.string s', .int .i64 e'] TI (0, 0))) (hb : Below w.heap.size w W') (hk : KeepBut W W' gi none) : GetSt w W' gr gi gc TC TI s' e' cs zs :=
  ⟨hi, (hk.2 gc (blk_lt h.c) (fun e => h.nic e.symm) (by simp)).trans h.c, (hk.2 gr (blk_lt h.r) h.nri (by simp)).trans h.r, hb, h.lr, h.li, h.lc, h.nic, h.nri, h.nrc⟩
theorem GetSt.quiet (h : GetSt w W gr gi gc TC TI s e cs zs) (hb : Below W.heap.size W W') : GetSt w W' gr gi gc TC TI s e cs zs :=
  ⟨(hb.block gi (blk_lt h.i)).trans h.i, (hb.block gc (blk_lt h.c)).trans h.c, (hb.block gr (blk_lt h.r)).trans h.r, below_then h.b h.b.size hb, h.lr, h.li, h.lc, h.nic, h.nri, h.nrc⟩
theorem GetSt.store (h : GetSt w W gr gi gc TC TI s e cs zs) (i : Nat) (v : Value) : GetSt w (W.setCell ⟨gc, i, none⟩ v) gr gi gc TC TI s e (cs.setIfInBounds i v) zs := by
  have far : ∀ k, k ≠ gc → (W.setCell ⟨gc, i, none⟩ v).heap[k]? = W.heap[k]? := fun k hk => Below.heap_setCell W ⟨gc, i, none⟩ v k hk
  exact ⟨(far gi h.nic).trans h.i, Blk.set_ (show Blk W gc TC cs from h.c) i v, (far gr h.nrc).trans h.r, below_set h.b h.lc, h.lr, h.li, h.lc, h.nic, h.nri, h.nrc⟩
theorem row_call {T : TypeId} {base : Nat} {v : Value} {xs : List ByteArray} {cells : Array Value} (h : Kd.R Kd.string 9 W base (fun _ => True) v xs) (hi : W.heap[gi]? = some (.cells cells T (0, 0))) (hT : 9 ≠ T) (hk : KeepBut W W' gi none) : Kd.R Kd.string 9 W' base (fun _ => True) v xs :=
  Kd.R_mono (Kd.R_keep (Kd.R_types h hi (fun q hq => by
    rcases List.mem_cons.1 hq with rfl | hq
    · exact hT
    · exact absurd hq (by simp [Kd.string, Kd.scalar]))) hk (fun _ h => h.2)) (fun _ _ => trivial)
theorem row_store {T : TypeId} {base : Nat} {v : Value} {xs : List ByteArray} {cells : Array Value} (h : Kd.R Kd.string 9 W base (fun _ => True) v xs) (hc : W.heap[gc]? = some (.cells cells T (0, 0))) (hT : 9 ≠ T) (i : Nat) (u : Value) : Kd.R Kd.string 9 (W.setCell ⟨gc, i, none⟩ u) base (fun _ => True) v xs :=
  Kd.R_mono (Kd.R_far (Kd.R_types h hc (fun q hq => by
    rcases List.mem_cons.1 hq with rfl | hq
    · exact hT
    · exact absurd hq (by simp [Kd.string, Kd.scalar]))) (fun _ h => h.2) u) (fun _ _ => trivial)
end
/-- Ten cells are written. -/
theorem put10 {W : World} {g : Nat} {T : TypeId} {c0 c1 c2 c3 c4 c5 c6 c7 c8 c9 : Value} (h : W.heap[g]? = some (.cells #[c0, c1, c2, c3, c4, c5, c6, c7, c8, c9] T (0, 0))) (v0 v1 v2 v3 v4 v5 v6 v7 v8 v9 : Value) :
    ((((((((((W.setCell ⟨g, 0, none⟩ v0).setCell ⟨g, 1, none⟩ v1).setCell ⟨g, 2, none⟩ v2).setCell ⟨g, 3, none⟩ v3).setCell ⟨g, 4, none⟩ v4).setCell ⟨g, 5, none⟩ v5).setCell ⟨g, 6, none⟩ v6).setCell ⟨g, 7, none⟩ v7).setCell ⟨g, 8, none⟩ v8).setCell ⟨g, 9, none⟩ v9).heap[g]? = some (.cells #[v0, v1, v2, v3, v4, v5, v6, v7, v8, v9] T (0, 0)) := by
  have h0 : Blk (W.setCell ⟨g, 0, none⟩ v0) g T #[v0, c1, c2, c3, c4, c5, c6, c7, c8, c9] := Blk.set_ (show Blk W g T _ from h) 0 v0
  have h1 : Blk ((W.setCell ⟨g, 0, none⟩ v0).setCell ⟨g, 1, none⟩ v1) g T #[v0, v1, c2, c3, c4, c5, c6, c7, c8, c9] := Blk.set_ h0 1 v1
  have h2 : Blk (((W.setCell ⟨g, 0, none⟩ v0).setCell ⟨g, 1, none⟩ v1).setCell ⟨g, 2, none⟩ v2) g T #[v0, v1, v2, c3, c4, c5, c6, c7, c8, c9] := Blk.set_ h1 2 v2
  have h3 : Blk ((((W.setCell ⟨g, 0, none⟩ v0).setCell ⟨g, 1, none⟩ v1).setCell ⟨g, 2, none⟩ v2).setCell ⟨g, 3, none⟩ v3) g T #[v0, v1, v2, v3, c4, c5, c6, c7, c8, c9] := Blk.set_ h2 3 v3
  have h4 : Blk (((((W.setCell ⟨g, 0, none⟩ v0).setCell ⟨g, 1, none⟩ v1).setCell ⟨g, 2, none⟩ v2).setCell ⟨g, 3, none⟩ v3).setCell ⟨g, 4, none⟩ v4) g T #[v0, v1, v2, v3, v4, c5, c6, c7, c8, c9] := Blk.set_ h3 4 v4
  have h5 : Blk ((((((W.setCell ⟨g, 0, none⟩ v0).setCell ⟨g, 1, none⟩ v1).setCell ⟨g, 2, none⟩ v2).setCell ⟨g, 3, none⟩ v3).setCell ⟨g, 4, none⟩ v4).setCell ⟨g, 5, none⟩ v5) g T #[v0, v1, v2, v3, v4, v5, c6, c7, c8, c9] := Blk.set_ h4 5 v5
  have h6 : Blk (((((((W.setCell ⟨g, 0, none⟩ v0).setCell ⟨g, 1, none⟩ v1).setCell ⟨g, 2, none⟩ v2).setCell ⟨g, 3, none⟩ v3).setCell ⟨g, 4, none⟩ v4).setCell ⟨g, 5, none⟩ v5).setCell ⟨g, 6, none⟩ v6) g T #[v0, v1, v2, v3, v4, v5, v6, c7, c8, c9] := Blk.set_ h5 6 v6
  have h7 : Blk ((((((((W.setCell ⟨g, 0, none⟩ v0).setCell ⟨g, 1, none⟩ v1).setCell ⟨g, 2, none⟩ v2).setCell ⟨g, 3, none⟩ v3).setCell ⟨g, 4, none⟩ v4).setCell ⟨g, 5, none⟩ v5).setCell ⟨g, 6, none⟩ v6).setCell ⟨g, 7, none⟩ v7) g T #[v0, v1, v2, v3, v4, v5, v6, v7, c8, c9] := Blk.set_ h6 7 v7
  have h8 : Blk (((((((((W.setCell ⟨g, 0, none⟩ v0).setCell ⟨g, 1, none⟩ v1).setCell ⟨g, 2, none⟩ v2).setCell ⟨g, 3, none⟩ v3).setCell ⟨g, 4, none⟩ v4).setCell ⟨g, 5, none⟩ v5).setCell ⟨g, 6, none⟩ v6).setCell ⟨g, 7, none⟩ v7).setCell ⟨g, 8, none⟩ v8) g T #[v0, v1, v2, v3, v4, v5, v6, v7, v8, c9] := Blk.set_ h7 8 v8
  have h9 : Blk ((((((((((W.setCell ⟨g, 0, none⟩ v0).setCell ⟨g, 1, none⟩ v1).setCell ⟨g, 2, none⟩ v2).setCell ⟨g, 3, none⟩ v3).setCell ⟨g, 4, none⟩ v4).setCell ⟨g, 5, none⟩ v5).setCell ⟨g, 6, none⟩ v6).setCell ⟨g, 7, none⟩ v7).setCell ⟨g, 8, none⟩ v8).setCell ⟨g, 9, none⟩ v9) g T #[v0, v1, v2, v3, v4, v5, v6, v7, v8, v9] := Blk.set_ h8 9 v9
  exact h9
theorem put10_below {w W : World} {g : Nat} (h : Below w.heap.size w W) (hg : w.heap.size ≤ g) (v0 v1 v2 v3 v4 v5 v6 v7 v8 v9 : Value) : Below w.heap.size w ((((((((((W.setCell ⟨g, 0, none⟩ v0).setCell ⟨g, 1, none⟩ v1).setCell ⟨g, 2, none⟩ v2).setCell ⟨g, 3, none⟩ v3).setCell ⟨g, 4, none⟩ v4).setCell ⟨g, 5, none⟩ v5).setCell ⟨g, 6, none⟩ v6).setCell ⟨g, 7, none⟩ v7).setCell ⟨g, 8, none⟩ v8).setCell ⟨g, 9, none⟩ v9) :=
  (below_set (below_set (below_set (below_set (below_set (below_set (below_set (below_set (below_set (below_set h hg) hg) hg) hg) hg) hg) hg) hg) hg) hg)
theorem put10_far {W : World} {g : Nat} (v0 v1 v2 v3 v4 v5 v6 v7 v8 v9 : Value) (k : Nat) (hk : k ≠ g) : ((((((((((W.setCell ⟨g, 0, none⟩ v0).setCell ⟨g, 1, none⟩ v1).setCell ⟨g, 2, none⟩ v2).setCell ⟨g, 3, none⟩ v3).setCell ⟨g, 4, none⟩ v4).setCell ⟨g, 5, none⟩ v5).setCell ⟨g, 6, none⟩ v6).setCell ⟨g, 7, none⟩ v7).setCell ⟨g, 8, none⟩ v8).setCell ⟨g, 9, none⟩ v9).heap[k]? = W.heap[k]? := by
  simp only [Below.heap_setCell _ ⟨g, _, none⟩ _ k hk]
theorem put10_row {W : World} {g : Nat} {T : TypeId} {cells : Array Value} {base : Nat} {v : Value} {xs : List ByteArray} (h : Kd.R Kd.string 9 W base (fun _ => True) v xs) (hc : W.heap[g]? = some (.cells cells T (0, 0))) (hT : 9 ≠ T) (v0 v1 v2 v3 v4 v5 v6 v7 v8 v9 : Value) : Kd.R Kd.string 9 ((((((((((W.setCell ⟨g, 0, none⟩ v0).setCell ⟨g, 1, none⟩ v1).setCell ⟨g, 2, none⟩ v2).setCell ⟨g, 3, none⟩ v3).setCell ⟨g, 4, none⟩ v4).setCell ⟨g, 5, none⟩ v5).setCell ⟨g, 6, none⟩ v6).setCell ⟨g, 7, none⟩ v7).setCell ⟨g, 8, none⟩ v8).setCell ⟨g, 9, none⟩ v9) base (fun _ => True) v xs :=
  Kd.R_mono (Kd.R_step (Kd.R_types h hc (fun q hq => by
    rcases List.mem_cons.1 hq with rfl | hq
    · exact hT
    · exact absurd hq (by simp [Kd.string, Kd.scalar]))) (fun k hk _ => put10_far v0 v1 v2 v3 v4 v5 v6 v7 v8 v9 k hk.2)) (fun _ _ => trivial)
end Go.Proofs.Ytnajmemcdipknaa.PK
namespace Go.Proofs.Ytnajmemcdipknaa.PK
open Go.RowKit Go.Proofs.YtnajmemcdipknaaW.PrintWords Go.Proofs.YtnajmemcdipknaaW.PrintLast Go.Proofs.YtnajmemcdipknaaW.PrintMore
open Go.ChangeShapes Go.WideShapes
set_option linter.unusedVariables false
set_option linter.unusedSimpArgs false
set_option maxRecDepth 100000
theorem info9s : (Try.prog.info? 9).map (fun i => (i.zero, i.size, i.bytes)) = some (some (.string ByteArray.empty), 1, 16) := by kernel_rfl
theorem heap_new' {W : World} {o : Obj} {n : Nat} (h : W.heap.size = n) : (W.alloc o).heap[n]? = some o := by subst h; exact heap_alloc_new W o
theorem own_C {W : World} {base : Nat} {B : Option Addr} {c1 : Nat} {wd : List ByteArray} (h : W.ownsRow base 9 1 (.slice B wd.length c1) wd.length (encs Value.string wd)) : Kd.C Kd.string W B wd.length wd ∧ wd.length ≤ c1 := by
  obtain ⟨B', c', he, hl, hR⟩ := own_reads_of_le (d := ByteArray.empty) h
  injection he with h1 h2 h3
  subst h1; subst h3
  exact ⟨Kd.C_of_reads (d := ByteArray.empty) hR, hl⟩
section
variable {k : Int} {who nm ot tx : ByteArray} {wd : List ByteArray} {a b c d : Int}
end
end Go.Proofs.Ytnajmemcdipknaa.PK
namespace Go.Proofs.Ytnajmemcdipknaa.PK
open Go.RowKit Go.Proofs.YtnajmemcdipknaaW.PrintWords Go.Proofs.YtnajmemcdipknaaW.PrintLast Go.Proofs.YtnajmemcdipknaaW.PrintMore
open Go.ChangeShapes Go.WideShapes
set_option linter.unusedVariables false
set_option linter.unusedSimpArgs false
set_option maxRecDepth 100000
def kF : Kd Nat := Kd.scalar (Value.float .f64) (fun _ => rfl)
theorem C_F {w : World} {A : Option Addr} {n : Nat} {xs : List Nat} (h : Kd.C kF w A n xs) (t : Nat) (ht : t < xs.length) : ∃ ad, A = some ad ∧ w.cell? (ad.add t) = some (.float .f64 xs[t]) := by
  have HR := Kd.reads_of_C (enc := Value.float .f64) (h1 := fun _ => rfl) (d := (0 : Nat)) h
  obtain ⟨ad, rfl, hc⟩ := HR.2.2 (by have := HR.1; omega)
  refine ⟨ad, rfl, ?_⟩
  rw [hc t (by have := HR.1; omega), List.getD_eq_getElem?_getD, List.getElem?_eq_getElem ht]
  rfl
def repL (code line col cnt : Int) (tx : ByteArray) (ts : List ByteArray) (ms : List Nat) : List Int :=
  [] ++ putL code ++ putL line ++ putL col ++ putL cnt ++ textL tx ++ textsL ts ++ textsL (ms.map putM)
def repBad (code line col cnt : Int) (tx : ByteArray) (ts : List ByteArray) (ms : List Nat) : Bool :=
  false || !fitsN code || !fitsN line || !fitsN col || !fitsN cnt || decide (65536 < tx.size) || badTexts ts || badTexts (ms.map putM)
def putR (code line col cnt : Int) (tx : ByteArray) (ts : List ByteArray) (ms : List Nat) : ByteArray :=
  if 4096 < ts.length ∨ 4096 < ms.length then ⟨#[]⟩ else if repBad code line col cnt tx ts ms then ⟨#[]⟩ else strOfNums (repL code line col cnt tx ts ms)
theorem ok_texts4096 {L T : Nat} (hL : L ≤ 300000000) (hT : T ≤ 4096) : ∀ m, m ≤ L + (65544 * T + 70000) → m ≤ 140737488355328 := by
  intro m hm
  have hX : 65544 * T ≤ 268468224 := by omega
  have : m ≤ 300000000 + (268468224 + 70000) := Nat.le_trans hm (Nat.add_le_add hL (Nat.add_le_add_right hX _))
  exact Nat.le_trans this (by decide)
set_option maxHeartbeats 6400000 in
theorem putReply_calls (code line col cnt : Int) (tx : ByteArray) (A : Option Addr) (cap : Nat) (ts : List ByteArray) (M : Option Addr) (capm : Nat) (ms : List Nat) (w : World) (hr : Kd.C Kd.string w A ts.length ts) (hm : Kd.C kF w M ms.length ms) (hms : ∀ x ∈ ms, x < 18446744073709551616) :
    Calls Try.prog 24 #[.agg #[.int .i64 code, .int .i64 line, .int .i64 col, .int .i64 cnt, .string tx, .slice A ts.length cap, .slice M ms.length capm]] w fun e w' => e = .returned (.string (putR code line col cnt tx ts ms)) ∧ Below w.heap.size w w' := by
  have hu := Try.underlying44
  have HR := Aside0.mk hr
  have HM := Aside0.mk hm
  have HMS := Aside0.mk hms
  have HB1 := Aside0.mk (below_alloc (Below.refl w.heap.size w) (.cells #[.int .i64 code, .int .i64 line, .int .i64 col, .int .i64 cnt, .string tx, .slice A ts.length cap, .slice M ms.length capm] 44))
  clear hr hm hms
  by_cases c1 : 4096 < ts.length
  · have e1 : decide ((4096 : Int) < (ts.length : Int)) = true := by simp; omega
    have PC : Aside0 (putR code line col cnt tx ts ms = ⟨#[]⟩) := ⟨by unfold putR; rw [if_pos (.inl c1)]⟩
    clear c1
    go_enter Try.func24, Try.ntmps24
    go_wp2
    go_ret
    exact ⟨by rw [PC.out]; rfl, HB1.out⟩
  have e1 : decide ((4096 : Int) < (ts.length : Int)) = false := by simp; omega
  by_cases c2 : 4096 < ms.length
  · have e2 : decide ((4096 : Int) < (ms.length : Int)) = true := by simp; omega
    have PC : Aside0 (putR code line col cnt tx ts ms = ⟨#[]⟩) := ⟨by unfold putR; rw [if_pos (.inr c2)]⟩
    clear c1 c2
    go_enter Try.func24, Try.ntmps24
    go_wp2
    go_ret
    exact ⟨by rw [PC.out]; rfl, HB1.out⟩
  have e2 : decide ((4096 : Int) < (ms.length : Int)) = false := by simp; omega
  have PC : Aside0 (putR code line col cnt tx ts ms = if repBad code line col cnt tx ts ms then ⟨#[]⟩ else strOfNums (repL code line col cnt tx ts ms)) := ⟨by unfold putR; rw [if_neg (by omega)]⟩
  have LT : Aside0 (ts.length ≤ 4096) := ⟨by omega⟩
  have LM : Aside0 (ms.length ≤ 4096) := ⟨by omega⟩
  have LN : Aside0 ((putL code).length ≤ 8 ∧ (putL line).length ≤ 8 ∧ (putL col).length ≤ 8 ∧ (putL cnt).length ≤ 8 ∧ (textL tx).length ≤ 65544 ∧ (textsL ts).length ≤ 270000000) :=
    ⟨putL_len code, putL_len line, putL_len col, putL_len cnt, textL_len tx, by have := textsL_len ts; omega⟩
  clear c1 c2
  go_enter Try.func24, Try.ntmps24
  go_wp2_with fail
  obtain ⟨w3, hw3⟩ : ∃ w3, w3 = (w.alloc (.cells #[.int .i64 code, .int .i64 line, .int .i64 col, .int .i64 cnt, .string tx, .slice A ts.length cap, .slice M ms.length capm] 44)).alloc (.cells #[.slice none 0 0, .bool false] 97) := ⟨_, rfl⟩
  have hst : OutI w3 (w.heap.size + 1) 0 97 #[.bool false, .bool false] (w.heap.size + 2) w3 ([]) (false) := ⟨OutB.new _ _ _ _ (by decide) (by rw [hw3]; exact heap_new' (by simp)), OutK.refl _ _ _, by rw [hw3]; simp⟩
  have HB3 := Aside0.mk (show Below w.heap.size w w3 from by rw [hw3]; exact below_alloc HB1.out _)
  have BX := Aside0.mk (show w3.heap[w.heap.size]? = some (.cells #[.int .i64 code, .int .i64 line, .int .i64 col, .int .i64 cnt, .string tx, .slice A ts.length cap, .slice M ms.length capm] 44 (0, 0)) from by rw [hw3]; exact (heap_alloc_old _ _ (by simp)).trans (heap_new' rfl))
  simp only [← hw3]
  have HI0 := Aside0.mk hst
  have BX0 := BX
  clear hst hw3
  have hz0 : w3.cell? ⟨w.heap.size, 0, none⟩ = some (.int .i64 code) := (blk_cell BX0.out 0).trans rfl
  go_wp2_with fail
  clear hz0
  with_reducible refine ((takes_out w3 (w.heap.size + 1) 0 97 #[.bool false, .bool false] (w.heap.size + 2)).int w3 (([] : List Int)) (false) code HI0.out (by simp only [List.length_append, List.length_nil]; have := LN.out; omega)).mono ?_
  rintro e v0 ⟨rfl, h⟩
  have HI1 := Aside0.mk h
  have BX1 := Aside0.mk ((h.2.1.old w.heap.size (by omega) (by omega)).trans BX.out)
  clear h HI0
  have hz1 : v0.cell? ⟨w.heap.size, 1, none⟩ = some (.int .i64 line) := (blk_cell BX1.out 1).trans rfl
  go_wp2_with fail
  clear hz1
  with_reducible refine ((takes_out w3 (w.heap.size + 1) 0 97 #[.bool false, .bool false] (w.heap.size + 2)).int v0 (([] : List Int) ++ putL code) (false || !fitsN code) line HI1.out (by simp only [List.length_append, List.length_nil]; have := LN.out; omega)).mono ?_
  rintro e v1 ⟨rfl, h⟩
  have HI2 := Aside0.mk h
  have BX2 := Aside0.mk ((h.2.1.old w.heap.size (by omega) (by omega)).trans BX.out)
  clear h HI1
  have hz2 : v1.cell? ⟨w.heap.size, 2, none⟩ = some (.int .i64 col) := (blk_cell BX2.out 2).trans rfl
  go_wp2_with fail
  clear hz2
  with_reducible refine ((takes_out w3 (w.heap.size + 1) 0 97 #[.bool false, .bool false] (w.heap.size + 2)).int v1 (([] : List Int) ++ putL code ++ putL line) (false || !fitsN code || !fitsN line) col HI2.out (by simp only [List.length_append, List.length_nil]; have := LN.out; omega)).mono ?_
  rintro e v2 ⟨rfl, h⟩
  have HI3 := Aside0.mk h
  have BX3 := Aside0.mk ((h.2.1.old w.heap.size (by omega) (by omega)).trans BX.out)
  clear h HI2
  have hz3 : v2.cell? ⟨w.heap.size, 3, none⟩ = some (.int .i64 cnt) := (blk_cell BX3.out 3).trans rfl
  go_wp2_with fail
  clear hz3
  with_reducible refine ((takes_out w3 (w.heap.size + 1) 0 97 #[.bool false, .bool false] (w.heap.size + 2)).int v2 (([] : List Int) ++ putL code ++ putL line ++ putL col) (false || !fitsN code || !fitsN line || !fitsN col) cnt HI3.out (by simp only [List.length_append, List.length_nil]; have := LN.out; omega)).mono ?_
  rintro e v3 ⟨rfl, h⟩
  have HI4 := Aside0.mk h
  have BX4 := Aside0.mk ((h.2.1.old w.heap.size (by omega) (by omega)).trans BX.out)
  clear h HI3
  have hz4 : v3.cell? ⟨w.heap.size, 4, none⟩ = some (.string tx) := (blk_cell BX4.out 4).trans rfl
  go_wp2_with fail
  clear hz4
  with_reducible refine ((takes_out w3 (w.heap.size + 1) 0 97 #[.bool false, .bool false] (w.heap.size + 2)).text v3 (([] : List Int) ++ putL code ++ putL line ++ putL col ++ putL cnt) (false || !fitsN code || !fitsN line || !fitsN col || !fitsN cnt) tx HI4.out (by simp only [List.length_append, List.length_nil]; have := LN.out; omega)).mono ?_
  rintro e v4 ⟨rfl, h⟩
  have HI5 := Aside0.mk h
  have BX5 := Aside0.mk ((h.2.1.old w.heap.size (by omega) (by omega)).trans BX.out)
  clear h HI4
  have hz5 : v4.cell? ⟨w.heap.size, 5, none⟩ = some (.slice A ts.length cap) := (blk_cell BX5.out 5).trans rfl
  go_wp2_with fail
  clear hz5
  refine (out_texts (takes_out w3 (w.heap.size + 1) 0 97 #[.bool false, .bool false] (w.heap.size + 2)) A cap ts (([] : List Int) ++ putL code ++ putL line ++ putL col ++ putL cnt ++ textL tx) (false || !fitsN code || !fitsN line || !fitsN col || !fitsN cnt || decide (65536 < tx.size)) v4 HI5.out (fun w' _ _ h => Kd.C_below HR.out (outI_below HB3.out h (by omega) (by omega))) (ok_texts4096 (by simp only [List.length_append, List.length_nil]; have := LN.out; omega) LT.out) ⟨_, rfl⟩).mono ?_
  rintro e v5 ⟨rfl, h⟩
  have HI6 := Aside0.mk h
  have BX6 := Aside0.mk ((h.2.1.old w.heap.size (by omega) (by omega)).trans BX.out)
  clear h HI5
  have hz6 : v5.cell? ⟨w.heap.size, 6, none⟩ = some (.slice M ms.length capm) := (blk_cell BX6.out 6).trans rfl
  go_wp2_with fail
  clear hz6
  obtain ⟨xs, hxs⟩ : ∃ xs, ms.map putM = xs := ⟨_, rfl⟩
  have hlen : xs.length = ms.length := by rw [← hxs, List.length_map]
  have HXS := Aside0.mk hxs
  have HLEN := Aside0.mk hlen
  have HOB := Aside0.mk HI6.out.1
  have HBB := Aside0.mk (outI_below HB3.out HI6.out (by omega) (by omega))
  have HSZ := Aside0.mk HI6.out.2.2
  clear hxs hlen HI6 BX6 BX5 BX4 BX3 BX2 BX1 BX0
  go_loopw [4, 40] (fun l i wr => ∃ j : Nat, j ≤ ms.length ∧ i = .int .i64 j ∧ Aside0 (OutB wr (w.heap.size + 1) 0 97 #[.bool false, .bool false] (w.heap.size + 2) (([] : List Int) ++ putL code ++ putL line ++ putL col ++ putL cnt ++ textL tx ++ textsL ts) (false || !fitsN code || !fitsN line || !fitsN col || !fitsN cnt || decide (65536 < tx.size) || badTexts ts)) ∧ Aside0 (wr.ownsRow w.heap.size 9 1 l j (encs Value.string (xs.take j))) ∧ Aside0 (Below w.heap.size w wr) ∧ Aside0 ((w.heap.size + 2) ≤ wr.heap.size)) (fun _ i _ => ms.length - (intOf i).toNat)
  case atStart => exact ⟨0, Nat.zero_le _, rfl, HOB, ⟨own_nil _ _ _ _⟩, HBB, HSZ⟩
  case round =>
    obtain ⟨j, hj, rfl, HO, HW, HB, HS⟩ := hrel
    clear HOB HBB HSZ
    by_cases hjn : j < ms.length
    · have hmx := HM.out.2.1
      obtain ⟨ad, rfl, hcell⟩ := C_F (Kd.C_below HM.out HB.out) j hjn
      have hd : decide ((j : Int) < (ms.length : Int)) = true := by simp; omega
      have hx : ms[j] < 18446744073709551616 := HMS.out _ (List.getElem_mem hjn)
      have hxj : xs[j]'(by have := HLEN.out; omega) = putM ms[j] := by
        have h := HXS.out
        subst h
        simp
      obtain ⟨x, hxx⟩ : ∃ x, ms[j] = x := ⟨_, rfl⟩
      rw [hxx] at hx hcell hxj
      have HX := Aside0.mk hx
      have HTK := Aside0.mk (show xs.take (j + 1) = xs.take j ++ [putM x] from by rw [List.take_succ_eq_append_getElem (by have := HLEN.out; omega), hxj])
      have HJL := Aside0.mk (show (xs.take j).length = j from by rw [List.length_take]; have := HLEN.out; omega)
      clear hxx hx hxj
      go_wp2_with fail
      (with_reducible refine (mput_calls x HX.out _).mono ?_)
      rintro e w4 ⟨rfl, hb4⟩
      have HO4 := Aside0.mk (HO.out.below hb4)
      have HW4 := Aside0.mk (pw_own_below HW.out hb4)
      have HB4 := Aside0.mk (below_then HB.out HB.out.size hb4)
      have HS4 := Aside0.mk (Nat.le_trans HS.out hb4.size)
      clear hb4 hcell HO HW HB
      go_wp2_with (at_builtin; (refine print_append_of (w0 := w) Value.string w.heap.size rfl (.tmp 44) (.tmp 47) 22 9 (.string ByteArray.empty) 16 rfl Try.underlying22 info9s rfl (by decide) _ (xs.take j) (putM x) rfl rfl rfl (own_len HW4.out HJL.out.symm) HB4.out HB4.out.size (by have := HJL.out; have := LM.out; omega) ?_); intro v5' w5 ho hbl hg _; have HO5 := Aside0.mk (HO4.out.grown hg rfl HW4.out (by decide) (by decide)); have HW5 := Aside0.mk ho; have HB5 := Aside0.mk hbl; have HS5 := Aside0.mk (Nat.le_trans HS4.out hg.size); clear ho hbl hg)
      go_roundw
      case rel => exact ⟨j + 1, by omega, by go_num, HO5, ⟨by rw [HTK.out]; exact own_len HW5.out (by rw [List.length_append, HJL.out]; rfl)⟩, HB5, HS5⟩
      case measure => simp [intOf]; omega
    · obtain rfl : ms.length = j := by omega
      have hd : decide ((ms.length : Int) < (ms.length : Int)) = false := by simp
      have hfull : xs.take ms.length = xs := List.take_of_length_le (by have := HLEN.out; omega)
      have hw := HW.out
      rw [hfull] at hw
      obtain ⟨B, c1, rfl, _⟩ := own_reads_of (d := ByteArray.empty) hw
      have HWF := Aside0.mk hw
      clear hw hfull HW
      have hw2 : wr.ownsRow w.heap.size 9 1 (.slice B xs.length c1) xs.length (encs Value.string xs) := by rw [HLEN.out]; exact HWF.out
      obtain ⟨cs', hblk⟩ := HO.out.blk
      have hT := out_texts (takes_out wr (w.heap.size + 1) 0 97 #[.bool false, .bool false] (w.heap.size + 2)) B c1 xs (([] : List Int) ++ putL code ++ putL line ++ putL col ++ putL cnt ++ textL tx ++ textsL ts) (false || !fitsN code || !fitsN line || !fitsN col || !fitsN cnt || decide (65536 < tx.size) || badTexts ts) wr ⟨HO.out, OutK.refl _ _ _, HS.out⟩ (fun w' _ _ h => (own_C (h.2.1.own hblk hw2 (by decide) (by decide))).1) (ok_texts4096 (by simp only [List.length_append, List.length_nil]; have := LN.out; omega) (by have := LM.out; have := HLEN.out; omega)) ⟨_, rfl⟩
      rw [HLEN.out] at hT
      have HT := Aside0.mk hT
      obtain ⟨S, hS⟩ : ∃ S, putR code line col cnt tx ts ms = S := ⟨_, rfl⟩
      have hR : bytesR ((([] : List Int) ++ putL code ++ putL line ++ putL col ++ putL cnt ++ textL tx ++ textsL ts) ++ textsL xs) ((false || !fitsN code || !fitsN line || !fitsN col || !fitsN cnt || decide (65536 < tx.size) || badTexts ts) || badTexts xs) = .tuple #[.string S, .bool (!((false || !fitsN code || !fitsN line || !fitsN col || !fitsN cnt || decide (65536 < tx.size) || badTexts ts) || badTexts xs))] := by
        rw [← hS, PC.out, ← HXS.out]; rfl
      obtain ⟨ok, hok⟩ : ∃ ok, (!((false || !fitsN code || !fitsN line || !fitsN col || !fitsN cnt || decide (65536 < tx.size) || badTexts ts) || badTexts xs)) = ok := ⟨_, rfl⟩
      rw [hok] at hR
      have HRR := Aside0.mk hR
      have HSS := Aside0.mk hS
      clear hT hw2 hblk hS hR hok
      go_wp2_with fail
      refine HT.out.mono ?_
      rintro e w6 ⟨rfl, h⟩
      have HIF := Aside0.mk h
      clear h
      go_wp2_with fail
      refine (out_bytes _ _ _ _ _ _ _ _ (by exact HIF.out.1)).mono ?_
      rintro e w7 ⟨rfl, rfl⟩
      rw [HRR.out]
      have HBF := Aside0.mk (outI_below HB.out HIF.out (by omega) (by omega))
      go_wp2
      go_ret
      exact ⟨by rw [HSS.out]; rfl, HBF.out⟩
end Go.Proofs.Ytnajmemcdipknaa.PK
namespace Go.Proofs.Ytnajmemcdipknaa.PK
open Go.RowKit Go.Proofs.YtnajmemcdipknaaW.PrintWords Go.Proofs.YtnajmemcdipknaaW.PrintLast Go.Proofs.YtnajmemcdipknaaW.PrintMore
open Go.ChangeShapes Go.WideShapes
set_option linter.unusedVariables false
set_option linter.unusedSimpArgs false
set_option maxRecDepth 100000
theorem GetSt.isIn {w W : World} {gr gi gc : Nat} {TC : TypeId} {s : ByteArray} {e : Int} {cs zs : Array Value} (h : GetSt w W gr gi gc TC 153 s e cs zs) : IsS153 w W gi s e := ⟨h.i, h.li⟩
/-- What a reader of a command tells. -/
def Told (s : ByteArray) (w : World) (e : Ending) (w' : World) : Prop :=
  ∃ A cap, e = .returned (.tuple #[.agg (cellsV (getC s).1 A cap), .int .i64 (getC s).2]) ∧ Kd.C Kd.string w' A (getC s).1.wd.length (getC s).1.wd ∧ (getC s).1.wd.length ≤ cap ∧ Below w.heap.size w w'
theorem row_C {W : World} {base : Nat} {A : Option Addr} {cap : Nat} {xs : List ByteArray} (h : Kd.R Kd.string 9 W base (fun _ => True) (.slice A xs.length cap) xs) : Kd.C Kd.string W A xs.length xs ∧ xs.length ≤ cap := by
  obtain ⟨A', c', he, hl, hC⟩ := Kd.R_reads h
  injection he with h1 h2 h3
  subst h1; subst h3
  exact ⟨hC, hl⟩
theorem nil_C (w : World) : Kd.C Kd.string w none (zeroV.wd).length zeroV.wd := ⟨rfl, by simp [zeroV], fun h => absurd h (by simp [zeroV])⟩
theorem told_zero {s : ByteArray} {w w' : World} {x : Int} (h : getC s = (zeroV, x)) (hb : Below w.heap.size w w') : Told s w (.returned (.tuple #[.agg #[.int .i64 0, .string ⟨#[]⟩, .string ⟨#[]⟩, .string ⟨#[]⟩, .string ⟨#[]⟩, .slice none 0 0, .int .i64 0, .int .i64 0, .int .i64 0, .int .i64 0], .int .i64 x])) w' := by
  refine ⟨none, 0, ?_, ?_, ?_, hb⟩
  · rw [h]; rfl
  · rw [h]; exact nil_C w'
  · rw [h]; exact Nat.le_refl _
theorem told_ok {s : ByteArray} {w w' : World} {A : Option Addr} {cap : Nat} {k : Int} {who nm ot tx : ByteArray} {wd : List ByteArray} {a b c d : Int} (h : getC s = (⟨k, who, nm, ot, tx, wd, a, b, c, d⟩, 0)) (hC : Kd.C Kd.string w' A wd.length wd) (hc : wd.length ≤ cap) (hb : Below w.heap.size w w') :
    Told s w (.returned (.tuple #[.agg #[.int .i64 k, .string who, .string nm, .string ot, .string tx, .slice A wd.length cap, .int .i64 a, .int .i64 b, .int .i64 c, .int .i64 d], .int .i64 0])) w' := by
  refine ⟨A, cap, ?_, ?_, ?_, hb⟩
  · rw [h]; rfl
  · rw [h]; exact hC
  · rw [h]; exact hc
set_option maxHeartbeats 6400000 in
theorem cGet_calls (s : ByteArray) (w : World) : Calls Try.prog 18 #[.string s] w (Told s w) := by
  have hu := Try.underlying28
  obtain ⟨k, s0, e0, hq0⟩ : ∃ v s' e', rk s = (v, s', e') := ⟨_, _, _, rfl⟩
  have H0 : Aside0 (inInt s 0 = (k, s0, e0)) := ⟨by have h := hq0; unfold rk at h; exact h⟩
  obtain ⟨who, s1, e1, hq1⟩ : ∃ v s' e', r1 s = (v, s', e') := ⟨_, _, _, rfl⟩
  have H1 : Aside0 (inText s0 e0 = (who, s1, e1)) := ⟨by have h := hq1; unfold r1 at h; rw [hq0] at h; exact h⟩
  obtain ⟨nm, s2, e2, hq2⟩ : ∃ v s' e', r2 s = (v, s', e') := ⟨_, _, _, rfl⟩
  have H2 : Aside0 (inText s1 e1 = (nm, s2, e2)) := ⟨by have h := hq2; unfold r2 at h; rw [hq1] at h; exact h⟩
  obtain ⟨ot, s3, e3, hq3⟩ : ∃ v s' e', r3 s = (v, s', e') := ⟨_, _, _, rfl⟩
  have H3 : Aside0 (inText s2 e2 = (ot, s3, e3)) := ⟨by have h := hq3; unfold r3 at h; rw [hq2] at h; exact h⟩
  obtain ⟨tx, s4, e4, hq4⟩ : ∃ v s' e', r4 s = (v, s', e') := ⟨_, _, _, rfl⟩
  have H4 : Aside0 (inText s3 e3 = (tx, s4, e4)) := ⟨by have h := hq4; unfold r4 at h; rw [hq3] at h; exact h⟩
  obtain ⟨wd, s5, e5, hq5⟩ : ∃ v s' e', r5 s = (v, s', e') := ⟨_, _, _, rfl⟩
  have H5 : Aside0 (inTexts s4 e4 64 = (wd, s5, e5)) := ⟨by have h := hq5; unfold r5 at h; rw [hq4] at h; exact h⟩
  obtain ⟨a, s6, e6, hq6⟩ : ∃ v s' e', r6 s = (v, s', e') := ⟨_, _, _, rfl⟩
  have H6 : Aside0 (inInt s5 e5 = (a, s6, e6)) := ⟨by have h := hq6; unfold r6 at h; rw [hq5] at h; exact h⟩
  obtain ⟨b, s7, e7, hq7⟩ : ∃ v s' e', r7 s = (v, s', e') := ⟨_, _, _, rfl⟩
  have H7 : Aside0 (inInt s6 e6 = (b, s7, e7)) := ⟨by have h := hq7; unfold r7 at h; rw [hq6] at h; exact h⟩
  obtain ⟨c, s8, e8, hq8⟩ : ∃ v s' e', r8 s = (v, s', e') := ⟨_, _, _, rfl⟩
  have H8 : Aside0 (inInt s7 e7 = (c, s8, e8)) := ⟨by have h := hq8; unfold r8 at h; rw [hq7] at h; exact h⟩
  obtain ⟨d, s9, e9, hq9⟩ : ∃ v s' e', r9 s = (v, s', e') := ⟨_, _, _, rfl⟩
  have H9 : Aside0 (inInt s8 e8 = (d, s9, e9)) := ⟨by have h := hq9; unfold r9 at h; rw [hq8] at h; exact h⟩
  have HQ : Aside0 (readC s = ⟨k, who, nm, ot, tx, wd, a, b, c, d⟩ ∧ (r9 s).2.1 = s9 ∧ (r9 s).2.2 = e9) := ⟨by unfold readC; rw [hq0, hq1, hq2, hq3, hq4, hq5, hq6, hq7, hq8, hq9], by rw [hq9], by rw [hq9]⟩
  clear hq0 hq1 hq2 hq3 hq4 hq5 hq6 hq7 hq8 hq9
  go_enter Try.func18, Try.ntmps18
  go_wp2_with fail
  have hn := heap_alloc_new w (.cells #[.int .i64 0, .string ⟨#[]⟩, .string ⟨#[]⟩, .string ⟨#[]⟩, .string ⟨#[]⟩, .slice none 0 0, .int .i64 0, .int .i64 0, .int .i64 0, .int .i64 0] 28)
  have hb0 := below_alloc (Below.refl w.heap.size w) (.cells #[.int .i64 0, .string ⟨#[]⟩, .string ⟨#[]⟩, .string ⟨#[]⟩, .string ⟨#[]⟩, .slice none 0 0, .int .i64 0, .int .i64 0, .int .i64 0, .int .i64 0] 28)
  refine (octets_Open.calls s s 0 w _ hb0 rfl).mono ?_
  rintro e w2 ⟨gi, rfl, hi2, hb2, hbb⟩
  have hr2 := (hbb.block w.heap.size (blk_lt hn)).trans hn
  have hne : w.heap.size ≠ gi := blk_ne hr2 hi2.1 (by decide)
  have hlt := blk_lt hi2.1
  have hlr := blk_lt hr2
  have hn3 := heap_alloc_new w2 (.cells #[.int .i64 0, .string ⟨#[]⟩, .string ⟨#[]⟩, .string ⟨#[]⟩, .string ⟨#[]⟩, .slice none 0 0, .int .i64 0, .int .i64 0, .int .i64 0, .int .i64 0] 28)
  have hb3 := below_alloc (Below.refl w2.heap.size w2) (.cells #[.int .i64 0, .string ⟨#[]⟩, .string ⟨#[]⟩, .string ⟨#[]⟩, .string ⟨#[]⟩, .slice none 0 0, .int .i64 0, .int .i64 0, .int .i64 0, .int .i64 0] 28)
  have G : Aside0 (GetSt w (w2.alloc (.cells #[.int .i64 0, .string ⟨#[]⟩, .string ⟨#[]⟩, .string ⟨#[]⟩, .string ⟨#[]⟩, .slice none 0 0, .int .i64 0, .int .i64 0, .int .i64 0, .int .i64 0] 28)) w.heap.size gi w2.heap.size 28 153 s 0 #[.int .i64 0, .string ⟨#[]⟩, .string ⟨#[]⟩, .string ⟨#[]⟩, .string ⟨#[]⟩, .slice none 0 0, .int .i64 0, .int .i64 0, .int .i64 0, .int .i64 0] #[.int .i64 0, .string ⟨#[]⟩, .string ⟨#[]⟩, .string ⟨#[]⟩, .string ⟨#[]⟩, .slice none 0 0, .int .i64 0, .int .i64 0, .int .i64 0, .int .i64 0]) :=
    ⟨⟨(hb3.block gi hlt).trans hi2.1, hn3, (hb3.block _ hlr).trans hr2, below_then hb2 hb2.size hb3, Nat.le_refl _, hi2.2, hb2.size, by omega, hne, by omega⟩⟩
  clear hn hb0 hi2 hb2 hbb hr2 hne hlt hlr hn3 hb3
  go_wp2_with fail
  (with_reducible refine (octets_In_Int.calls gi s 0 k s0 e0 w _ G.out.isIn G.out.b (by rw [In_Int_eq, H0.out])).mono ?_)
  rintro e wv0 ⟨rfl, hi, hb, hk⟩
  have G' := Aside0.mk (G.out.call hi.1 hb hk)
  have hz : wv0.cell? ⟨w2.heap.size, 0, none⟩ = some (.int .i64 0) := (blk_cell G'.out.c 0).trans rfl
  have hf : wv0.frozen? ⟨w2.heap.size, 0, none⟩ = false := blk_frozen G'.out.c 0
  have G'' : Aside0 (GetSt w (wv0.setCell ⟨w2.heap.size, 0, none⟩ (.int .i64 k)) w.heap.size gi w2.heap.size 28 153 s0 e0 #[.int .i64 k, .string ⟨#[]⟩, .string ⟨#[]⟩, .string ⟨#[]⟩, .string ⟨#[]⟩, .slice none 0 0, .int .i64 0, .int .i64 0, .int .i64 0, .int .i64 0] #[.int .i64 0, .string ⟨#[]⟩, .string ⟨#[]⟩, .string ⟨#[]⟩, .string ⟨#[]⟩, .slice none 0 0, .int .i64 0, .int .i64 0, .int .i64 0, .int .i64 0]) := ⟨G'.out.store 0 (.int .i64 k)⟩
  clear hi hb hk G
  have G := G''
  clear G'' G'
  go_wp2_with fail
  clear hz hf
  (with_reducible refine (octets_In_Text.calls 1 gi s0 e0 who s1 e1 w _ G.out.isIn G.out.b (by rw [In_Text_eq s0 e0 1 (by omega), H1.out])).mono ?_)
  rintro e wv1 ⟨rfl, hi, hb, hk⟩
  have G' := Aside0.mk (G.out.call hi.1 hb hk)
  have hz : wv1.cell? ⟨w2.heap.size, 1, none⟩ = some (.string ⟨#[]⟩) := (blk_cell G'.out.c 1).trans rfl
  have hf : wv1.frozen? ⟨w2.heap.size, 1, none⟩ = false := blk_frozen G'.out.c 1
  have G'' : Aside0 (GetSt w (wv1.setCell ⟨w2.heap.size, 1, none⟩ (.string who)) w.heap.size gi w2.heap.size 28 153 s1 e1 #[.int .i64 k, .string who, .string ⟨#[]⟩, .string ⟨#[]⟩, .string ⟨#[]⟩, .slice none 0 0, .int .i64 0, .int .i64 0, .int .i64 0, .int .i64 0] #[.int .i64 0, .string ⟨#[]⟩, .string ⟨#[]⟩, .string ⟨#[]⟩, .string ⟨#[]⟩, .slice none 0 0, .int .i64 0, .int .i64 0, .int .i64 0, .int .i64 0]) := ⟨G'.out.store 1 (.string who)⟩
  clear hi hb hk G
  have G := G''
  clear G'' G'
  go_wp2_with fail
  clear hz hf
  (with_reducible refine (octets_In_Text.calls 1 gi s1 e1 nm s2 e2 w _ G.out.isIn G.out.b (by rw [In_Text_eq s1 e1 1 (by omega), H2.out])).mono ?_)
  rintro e wv2 ⟨rfl, hi, hb, hk⟩
  have G' := Aside0.mk (G.out.call hi.1 hb hk)
  have hz : wv2.cell? ⟨w2.heap.size, 2, none⟩ = some (.string ⟨#[]⟩) := (blk_cell G'.out.c 2).trans rfl
  have hf : wv2.frozen? ⟨w2.heap.size, 2, none⟩ = false := blk_frozen G'.out.c 2
  have G'' : Aside0 (GetSt w (wv2.setCell ⟨w2.heap.size, 2, none⟩ (.string nm)) w.heap.size gi w2.heap.size 28 153 s2 e2 #[.int .i64 k, .string who, .string nm, .string ⟨#[]⟩, .string ⟨#[]⟩, .slice none 0 0, .int .i64 0, .int .i64 0, .int .i64 0, .int .i64 0] #[.int .i64 0, .string ⟨#[]⟩, .string ⟨#[]⟩, .string ⟨#[]⟩, .string ⟨#[]⟩, .slice none 0 0, .int .i64 0, .int .i64 0, .int .i64 0, .int .i64 0]) := ⟨G'.out.store 2 (.string nm)⟩
  clear hi hb hk G
  have G := G''
  clear G'' G'
  go_wp2_with fail
  clear hz hf
  (with_reducible refine (octets_In_Text.calls 1 gi s2 e2 ot s3 e3 w _ G.out.isIn G.out.b (by rw [In_Text_eq s2 e2 1 (by omega), H3.out])).mono ?_)
  rintro e wv3 ⟨rfl, hi, hb, hk⟩
  have G' := Aside0.mk (G.out.call hi.1 hb hk)
  have hz : wv3.cell? ⟨w2.heap.size, 3, none⟩ = some (.string ⟨#[]⟩) := (blk_cell G'.out.c 3).trans rfl
  have hf : wv3.frozen? ⟨w2.heap.size, 3, none⟩ = false := blk_frozen G'.out.c 3
  have G'' : Aside0 (GetSt w (wv3.setCell ⟨w2.heap.size, 3, none⟩ (.string ot)) w.heap.size gi w2.heap.size 28 153 s3 e3 #[.int .i64 k, .string who, .string nm, .string ot, .string ⟨#[]⟩, .slice none 0 0, .int .i64 0, .int .i64 0, .int .i64 0, .int .i64 0] #[.int .i64 0, .string ⟨#[]⟩, .string ⟨#[]⟩, .string ⟨#[]⟩, .string ⟨#[]⟩, .slice none 0 0, .int .i64 0, .int .i64 0, .int .i64 0, .int .i64 0]) := ⟨G'.out.store 3 (.string ot)⟩
  clear hi hb hk G
  have G := G''
  clear G'' G'
  go_wp2_with fail
  clear hz hf
  (with_reducible refine (octets_In_Text.calls 1 gi s3 e3 tx s4 e4 w _ G.out.isIn G.out.b (by rw [In_Text_eq s3 e3 1 (by omega), H4.out])).mono ?_)
  rintro e wv4 ⟨rfl, hi, hb, hk⟩
  have G' := Aside0.mk (G.out.call hi.1 hb hk)
  have hz : wv4.cell? ⟨w2.heap.size, 4, none⟩ = some (.string ⟨#[]⟩) := (blk_cell G'.out.c 4).trans rfl
  have hf : wv4.frozen? ⟨w2.heap.size, 4, none⟩ = false := blk_frozen G'.out.c 4
  have G'' : Aside0 (GetSt w (wv4.setCell ⟨w2.heap.size, 4, none⟩ (.string tx)) w.heap.size gi w2.heap.size 28 153 s4 e4 #[.int .i64 k, .string who, .string nm, .string ot, .string tx, .slice none 0 0, .int .i64 0, .int .i64 0, .int .i64 0, .int .i64 0] #[.int .i64 0, .string ⟨#[]⟩, .string ⟨#[]⟩, .string ⟨#[]⟩, .string ⟨#[]⟩, .slice none 0 0, .int .i64 0, .int .i64 0, .int .i64 0, .int .i64 0]) := ⟨G'.out.store 4 (.string tx)⟩
  clear hi hb hk G
  have G := G''
  clear G'' G'
  go_wp2_with fail
  clear hz hf
  (with_reducible refine (octets_In_Texts.calls 65539 gi s4 e4 64 wd s5 e5 w _ G.out.isIn G.out.b (by rw [In_Texts_eq s4 e4 64 65539 (by omega), H5.out])).mono ?_)
  rintro e wv5 ⟨v0, rfl, hR, hi, hb, hk⟩
  obtain ⟨A, cap, ha, hcap, _⟩ := Kd.R_reads hR
  subst ha
  have G' := Aside0.mk (G.out.call hi.1 hb hk)
  have hz : wv5.cell? ⟨w2.heap.size, 5, none⟩ = some (.slice none 0 0) := (blk_cell G'.out.c 5).trans rfl
  have hf : wv5.frozen? ⟨w2.heap.size, 5, none⟩ = false := blk_frozen G'.out.c 5
  have G'' : Aside0 (GetSt w (wv5.setCell ⟨w2.heap.size, 5, none⟩ (.slice A wd.length cap)) w.heap.size gi w2.heap.size 28 153 s5 e5 #[.int .i64 k, .string who, .string nm, .string ot, .string tx, .slice A wd.length cap, .int .i64 0, .int .i64 0, .int .i64 0, .int .i64 0] #[.int .i64 0, .string ⟨#[]⟩, .string ⟨#[]⟩, .string ⟨#[]⟩, .string ⟨#[]⟩, .slice none 0 0, .int .i64 0, .int .i64 0, .int .i64 0, .int .i64 0]) := ⟨G'.out.store 5 (.slice A wd.length cap)⟩
  have R'' := Aside0.mk (row_store hR G'.out.c (by decide) 5 (.slice A wd.length cap))
  obtain ⟨bs, hbs⟩ : ∃ bs, bs = (wv5.heap.size) := ⟨_, rfl⟩
  clear hi hb hk G hR hbs
  have G := G''
  have HR6 := R''
  clear G'' G' R''
  go_wp2_with fail
  clear hz hf
  go_loopw [6, 29] (fun _ i wr => ∃ j : Nat, j ≤ 4 ∧ i = .int .i64 j ∧ Aside0 (GetSt w wr w.heap.size gi w2.heap.size 28 153 ([s5, s6, s7, s8, s9].getD j s9) ([e5, e6, e7, e8, e9].getD j e9) #[.int .i64 k, .string who, .string nm, .string ot, .string tx, .slice A wd.length cap, .int .i64 (if 0 < j then a else 0), .int .i64 (if 1 < j then b else 0), .int .i64 (if 2 < j then c else 0), .int .i64 (if 3 < j then d else 0)] #[.int .i64 0, .string ⟨#[]⟩, .string ⟨#[]⟩, .string ⟨#[]⟩, .string ⟨#[]⟩, .slice none 0 0, .int .i64 0, .int .i64 0, .int .i64 0, .int .i64 0]) ∧ Aside0 (Kd.R Kd.string 9 wr (wv4.setCell ⟨w2.heap.size, 4, none⟩ (.string tx)).heap.size (fun _ => True) (.slice A wd.length cap) wd)) (fun _ i _ => 4 - (intOf i).toNat)
  case atStart => exact ⟨0, Nat.zero_le _, rfl, ⟨G.out⟩, HR6⟩
  case round =>
    obtain ⟨j, hj, rfl, HG, HRW⟩ := hrel
    clear G HR6
    rcases (show j = 0 ∨ j = 1 ∨ j = 2 ∨ j = 3 ∨ j = 4 from by omega) with rfl | rfl | rfl | rfl | rfl
    · have G : Aside0 (GetSt w wr w.heap.size gi w2.heap.size 28 153 s5 e5 #[.int .i64 k, .string who, .string nm, .string ot, .string tx, .slice A wd.length cap, .int .i64 0, .int .i64 0, .int .i64 0, .int .i64 0] #[.int .i64 0, .string ⟨#[]⟩, .string ⟨#[]⟩, .string ⟨#[]⟩, .string ⟨#[]⟩, .slice none 0 0, .int .i64 0, .int .i64 0, .int .i64 0, .int .i64 0]) := ⟨HG.out⟩
      clear HG
      go_wp2_with fail
      (with_reducible refine (octets_In_Int.calls gi s5 e5 a s6 e6 w _ G.out.isIn G.out.b (by rw [In_Int_eq, H6.out])).mono ?_)
      rintro e wv ⟨rfl, hi, hb, hk⟩
      have G' := Aside0.mk (G.out.call hi.1 hb hk)
      have R' := Aside0.mk (row_call HRW.out G.out.i (by decide) hk)
      have hz : wv.cell? ⟨w2.heap.size, 6, none⟩ = some (.int .i64 0) := (blk_cell G'.out.c 6).trans rfl
      have hf : wv.frozen? ⟨w2.heap.size, 6, none⟩ = false := blk_frozen G'.out.c 6
      clear hi hb hk G HRW
      go_wp2_with fail
      go_roundw
      case rel => exact ⟨1, by omega, rfl, ⟨G'.out.store 6 (.int .i64 a)⟩, ⟨row_store R'.out G'.out.c (by decide) 6 (.int .i64 a)⟩⟩
      case measure => simp [intOf]
    · have G : Aside0 (GetSt w wr w.heap.size gi w2.heap.size 28 153 s6 e6 #[.int .i64 k, .string who, .string nm, .string ot, .string tx, .slice A wd.length cap, .int .i64 a, .int .i64 0, .int .i64 0, .int .i64 0] #[.int .i64 0, .string ⟨#[]⟩, .string ⟨#[]⟩, .string ⟨#[]⟩, .string ⟨#[]⟩, .slice none 0 0, .int .i64 0, .int .i64 0, .int .i64 0, .int .i64 0]) := ⟨HG.out⟩
      clear HG
      go_wp2_with fail
      (with_reducible refine (octets_In_Int.calls gi s6 e6 b s7 e7 w _ G.out.isIn G.out.b (by rw [In_Int_eq, H7.out])).mono ?_)
      rintro e wv ⟨rfl, hi, hb, hk⟩
      have G' := Aside0.mk (G.out.call hi.1 hb hk)
      have R' := Aside0.mk (row_call HRW.out G.out.i (by decide) hk)
      have hz : wv.cell? ⟨w2.heap.size, 7, none⟩ = some (.int .i64 0) := (blk_cell G'.out.c 7).trans rfl
      have hf : wv.frozen? ⟨w2.heap.size, 7, none⟩ = false := blk_frozen G'.out.c 7
      clear hi hb hk G HRW
      go_wp2_with fail
      go_roundw
      case rel => exact ⟨2, by omega, rfl, ⟨G'.out.store 7 (.int .i64 b)⟩, ⟨row_store R'.out G'.out.c (by decide) 7 (.int .i64 b)⟩⟩
      case measure => simp [intOf]
    · have G : Aside0 (GetSt w wr w.heap.size gi w2.heap.size 28 153 s7 e7 #[.int .i64 k, .string who, .string nm, .string ot, .string tx, .slice A wd.length cap, .int .i64 a, .int .i64 b, .int .i64 0, .int .i64 0] #[.int .i64 0, .string ⟨#[]⟩, .string ⟨#[]⟩, .string ⟨#[]⟩, .string ⟨#[]⟩, .slice none 0 0, .int .i64 0, .int .i64 0, .int .i64 0, .int .i64 0]) := ⟨HG.out⟩
      clear HG
      go_wp2_with fail
      (with_reducible refine (octets_In_Int.calls gi s7 e7 c s8 e8 w _ G.out.isIn G.out.b (by rw [In_Int_eq, H8.out])).mono ?_)
      rintro e wv ⟨rfl, hi, hb, hk⟩
      have G' := Aside0.mk (G.out.call hi.1 hb hk)
      have R' := Aside0.mk (row_call HRW.out G.out.i (by decide) hk)
      have hz : wv.cell? ⟨w2.heap.size, 8, none⟩ = some (.int .i64 0) := (blk_cell G'.out.c 8).trans rfl
      have hf : wv.frozen? ⟨w2.heap.size, 8, none⟩ = false := blk_frozen G'.out.c 8
      clear hi hb hk G HRW
      go_wp2_with fail
      go_roundw
      case rel => exact ⟨3, by omega, rfl, ⟨G'.out.store 8 (.int .i64 c)⟩, ⟨row_store R'.out G'.out.c (by decide) 8 (.int .i64 c)⟩⟩
      case measure => simp [intOf]
    · have G : Aside0 (GetSt w wr w.heap.size gi w2.heap.size 28 153 s8 e8 #[.int .i64 k, .string who, .string nm, .string ot, .string tx, .slice A wd.length cap, .int .i64 a, .int .i64 b, .int .i64 c, .int .i64 0] #[.int .i64 0, .string ⟨#[]⟩, .string ⟨#[]⟩, .string ⟨#[]⟩, .string ⟨#[]⟩, .slice none 0 0, .int .i64 0, .int .i64 0, .int .i64 0, .int .i64 0]) := ⟨HG.out⟩
      clear HG
      go_wp2_with fail
      (with_reducible refine (octets_In_Int.calls gi s8 e8 d s9 e9 w _ G.out.isIn G.out.b (by rw [In_Int_eq, H9.out])).mono ?_)
      rintro e wv ⟨rfl, hi, hb, hk⟩
      have G' := Aside0.mk (G.out.call hi.1 hb hk)
      have R' := Aside0.mk (row_call HRW.out G.out.i (by decide) hk)
      have hz : wv.cell? ⟨w2.heap.size, 9, none⟩ = some (.int .i64 0) := (blk_cell G'.out.c 9).trans rfl
      have hf : wv.frozen? ⟨w2.heap.size, 9, none⟩ = false := blk_frozen G'.out.c 9
      clear hi hb hk G HRW
      go_wp2_with fail
      go_roundw
      case rel => exact ⟨4, by omega, rfl, ⟨G'.out.store 9 (.int .i64 d)⟩, ⟨row_store R'.out G'.out.c (by decide) 9 (.int .i64 d)⟩⟩
      case measure => simp [intOf]
    · have G : Aside0 (GetSt w wr w.heap.size gi w2.heap.size 28 153 s9 e9 #[.int .i64 k, .string who, .string nm, .string ot, .string tx, .slice A wd.length cap, .int .i64 a, .int .i64 b, .int .i64 c, .int .i64 d] #[.int .i64 0, .string ⟨#[]⟩, .string ⟨#[]⟩, .string ⟨#[]⟩, .string ⟨#[]⟩, .slice none 0 0, .int .i64 0, .int .i64 0, .int .i64 0, .int .i64 0]) := ⟨HG.out⟩
      clear HG
      have zr0 : wr.cell? ⟨w.heap.size, 0, none⟩ = some (.int .i64 0) := (blk_cell G.out.r 0).trans rfl
      have fr0 : wr.frozen? ⟨w.heap.size, 0, none⟩ = false := blk_frozen G.out.r 0
      have zr1 : wr.cell? ⟨w.heap.size, 1, none⟩ = some (.string ⟨#[]⟩) := (blk_cell G.out.r 1).trans rfl
      have fr1 : wr.frozen? ⟨w.heap.size, 1, none⟩ = false := blk_frozen G.out.r 1
      have zr2 : wr.cell? ⟨w.heap.size, 2, none⟩ = some (.string ⟨#[]⟩) := (blk_cell G.out.r 2).trans rfl
      have fr2 : wr.frozen? ⟨w.heap.size, 2, none⟩ = false := blk_frozen G.out.r 2
      have zr3 : wr.cell? ⟨w.heap.size, 3, none⟩ = some (.string ⟨#[]⟩) := (blk_cell G.out.r 3).trans rfl
      have fr3 : wr.frozen? ⟨w.heap.size, 3, none⟩ = false := blk_frozen G.out.r 3
      have zr4 : wr.cell? ⟨w.heap.size, 4, none⟩ = some (.string ⟨#[]⟩) := (blk_cell G.out.r 4).trans rfl
      have fr4 : wr.frozen? ⟨w.heap.size, 4, none⟩ = false := blk_frozen G.out.r 4
      have zr5 : wr.cell? ⟨w.heap.size, 5, none⟩ = some (.slice none 0 0) := (blk_cell G.out.r 5).trans rfl
      have fr5 : wr.frozen? ⟨w.heap.size, 5, none⟩ = false := blk_frozen G.out.r 5
      have zr6 : wr.cell? ⟨w.heap.size, 6, none⟩ = some (.int .i64 0) := (blk_cell G.out.r 6).trans rfl
      have fr6 : wr.frozen? ⟨w.heap.size, 6, none⟩ = false := blk_frozen G.out.r 6
      have zr7 : wr.cell? ⟨w.heap.size, 7, none⟩ = some (.int .i64 0) := (blk_cell G.out.r 7).trans rfl
      have fr7 : wr.frozen? ⟨w.heap.size, 7, none⟩ = false := blk_frozen G.out.r 7
      have zr8 : wr.cell? ⟨w.heap.size, 8, none⟩ = some (.int .i64 0) := (blk_cell G.out.r 8).trans rfl
      have fr8 : wr.frozen? ⟨w.heap.size, 8, none⟩ = false := blk_frozen G.out.r 8
      have zr9 : wr.cell? ⟨w.heap.size, 9, none⟩ = some (.int .i64 0) := (blk_cell G.out.r 9).trans rfl
      have fr9 : wr.frozen? ⟨w.heap.size, 9, none⟩ = false := blk_frozen G.out.r 9
      have hgs : (getC s).2 = (getC s).2 := rfl
      clear hgs
      have hw1 : who.size ≤ 65536 := by have h := (inText_size s0 e0).2; rw [H1.out] at h; exact h
      have hw2 : nm.size ≤ 65536 := by have h := (inText_size s1 e1).2; rw [H2.out] at h; exact h
      have hw3 : ot.size ≤ 65536 := by have h := (inText_size s2 e2).2; rw [H3.out] at h; exact h
      by_cases he : e9 = 0
      · subst he
        have HCW := Aside0.mk (row_C HRW.out)
        obtain ⟨gd, hgd⟩ : ∃ gd, goodC k who nm ot tx wd a b c d = gd := ⟨_, rfl⟩
        have HGD := Aside0.mk hgd
        have hcf := fun x => blk_cell G.out.c x
        have zc0 : wr.cell? ⟨w2.heap.size, 0, none⟩ = some (.int .i64 k) := (hcf 0).trans rfl
        have zc1 : wr.cell? ⟨w2.heap.size, 1, none⟩ = some (.string who) := (hcf 1).trans rfl
        have zc2 : wr.cell? ⟨w2.heap.size, 2, none⟩ = some (.string nm) := (hcf 2).trans rfl
        have zc3 : wr.cell? ⟨w2.heap.size, 3, none⟩ = some (.string ot) := (hcf 3).trans rfl
        have zc4 : wr.cell? ⟨w2.heap.size, 4, none⟩ = some (.string tx) := (hcf 4).trans rfl
        have zc5 : wr.cell? ⟨w2.heap.size, 5, none⟩ = some (.slice A wd.length cap) := (hcf 5).trans rfl
        have zc6 : wr.cell? ⟨w2.heap.size, 6, none⟩ = some (.int .i64 a) := (hcf 6).trans rfl
        have zc7 : wr.cell? ⟨w2.heap.size, 7, none⟩ = some (.int .i64 b) := (hcf 7).trans rfl
        have zc8 : wr.cell? ⟨w2.heap.size, 8, none⟩ = some (.int .i64 c) := (hcf 8).trans rfl
        have zc9 : wr.cell? ⟨w2.heap.size, 9, none⟩ = some (.int .i64 d) := (hcf 9).trans rfl
        clear hcf
        cases gd
        · have HT : Aside0 (getC s = (zeroV, 2)) := ⟨by unfold getC goodV; rw [HQ.out.1, HQ.out.2.2, if_neg (by simp)]; exact if_pos hgd⟩
          clear hgd
          go_wp2_with (first
            | (go_at_call 56; refine (err_quiet gi s9 0 _ G.out.i).mono ?_; rintro e w' ⟨rfl, rfl⟩)
            | (go_at_call 15; (with_reducible refine (cGood_calls k who nm ot tx A cap wd a b c d _ (by omega) (by omega) (by omega) HCW.out.1 HCW.out.2).mono ?_); rintro e w8 ⟨rfl, hb8⟩; rw [HGD.out]; have G8 := Aside0.mk (G.out.quiet hb8); clear hb8 G; have G := G8; clear G8 zr0 fr0 zc0 zr1 fr1 zc1 zr2 fr2 zc2 zr3 fr3 zc3 zr4 fr4 zc4 zr5 fr5 zc5 zr6 fr6 zc6 zr7 fr7 zc7 zr8 fr8 zc8 zr9 fr9 zc9; have zr0 : w8.cell? ⟨w.heap.size, 0, none⟩ = some (.int .i64 0) := (blk_cell G.out.r 0).trans rfl; have fr0 : w8.frozen? ⟨w.heap.size, 0, none⟩ = false := blk_frozen G.out.r 0; have zr1 : w8.cell? ⟨w.heap.size, 1, none⟩ = some (.string ⟨#[]⟩) := (blk_cell G.out.r 1).trans rfl; have fr1 : w8.frozen? ⟨w.heap.size, 1, none⟩ = false := blk_frozen G.out.r 1; have zr2 : w8.cell? ⟨w.heap.size, 2, none⟩ = some (.string ⟨#[]⟩) := (blk_cell G.out.r 2).trans rfl; have fr2 : w8.frozen? ⟨w.heap.size, 2, none⟩ = false := blk_frozen G.out.r 2; have zr3 : w8.cell? ⟨w.heap.size, 3, none⟩ = some (.string ⟨#[]⟩) := (blk_cell G.out.r 3).trans rfl; have fr3 : w8.frozen? ⟨w.heap.size, 3, none⟩ = false := blk_frozen G.out.r 3; have zr4 : w8.cell? ⟨w.heap.size, 4, none⟩ = some (.string ⟨#[]⟩) := (blk_cell G.out.r 4).trans rfl; have fr4 : w8.frozen? ⟨w.heap.size, 4, none⟩ = false := blk_frozen G.out.r 4; have zr5 : w8.cell? ⟨w.heap.size, 5, none⟩ = some (.slice none 0 0) := (blk_cell G.out.r 5).trans rfl; have fr5 : w8.frozen? ⟨w.heap.size, 5, none⟩ = false := blk_frozen G.out.r 5; have zr6 : w8.cell? ⟨w.heap.size, 6, none⟩ = some (.int .i64 0) := (blk_cell G.out.r 6).trans rfl; have fr6 : w8.frozen? ⟨w.heap.size, 6, none⟩ = false := blk_frozen G.out.r 6; have zr7 : w8.cell? ⟨w.heap.size, 7, none⟩ = some (.int .i64 0) := (blk_cell G.out.r 7).trans rfl; have fr7 : w8.frozen? ⟨w.heap.size, 7, none⟩ = false := blk_frozen G.out.r 7; have zr8 : w8.cell? ⟨w.heap.size, 8, none⟩ = some (.int .i64 0) := (blk_cell G.out.r 8).trans rfl; have fr8 : w8.frozen? ⟨w.heap.size, 8, none⟩ = false := blk_frozen G.out.r 8; have zr9 : w8.cell? ⟨w.heap.size, 9, none⟩ = some (.int .i64 0) := (blk_cell G.out.r 9).trans rfl; have fr9 : w8.frozen? ⟨w.heap.size, 9, none⟩ = false := blk_frozen G.out.r 9))
          (try simp only [Exit.inBlock, Exit.then])
          refine bodyPost_ret (results_ct rfl _ _ w.heap.size 28 #[.int .i64 0, .string ⟨#[]⟩, .string ⟨#[]⟩, .string ⟨#[]⟩, .string ⟨#[]⟩, .slice none 0 0, .int .i64 0, .int .i64 0, .int .i64 0, .int .i64 0] (0, 0) _ rfl (put10 G.out.r _ _ _ _ _ _ _ _ _ _) Try.underlying28 rfl (by kernel_rfl)) rfl ?_
          exact told_zero HT.out (put10_below G.out.b (Nat.le_refl _) _ _ _ _ _ _ _ _ _ _)
        · by_cases hz9 : s9.size = 0
          · have HT : Aside0 (getC s = (⟨k, who, nm, ot, tx, wd, a, b, c, d⟩, 0)) := ⟨by unfold getC goodV; rw [HQ.out.1, HQ.out.2.1, HQ.out.2.2, if_neg (by simp)]; simp only [hgd]; simp [hz9]⟩
            have HEN : Aside0 (inEnd s9 0 = 0) := ⟨by unfold inEnd; rw [if_pos rfl, if_pos hz9]⟩
            clear hgd hz9
            go_wp2_with (first
              | (go_at_call 56; refine (err_quiet gi s9 0 _ G.out.i).mono ?_; rintro e w' ⟨rfl, rfl⟩)
              | (go_at_call 57; refine (end_quiet gi s9 0 _ G.out.i).mono ?_; rintro e w' ⟨rfl, rfl⟩; rw [HEN.out])
              | (go_at_call 15; (with_reducible refine (cGood_calls k who nm ot tx A cap wd a b c d _ (by omega) (by omega) (by omega) HCW.out.1 HCW.out.2).mono ?_); rintro e w8 ⟨rfl, hb8⟩; rw [HGD.out]; have G8 := Aside0.mk (G.out.quiet hb8); have HR8 := Aside0.mk (Kd.R_below HRW.out hb8); clear hb8 G; have G := G8; clear G8 zr0 fr0 zc0 zr1 fr1 zc1 zr2 fr2 zc2 zr3 fr3 zc3 zr4 fr4 zc4 zr5 fr5 zc5 zr6 fr6 zc6 zr7 fr7 zc7 zr8 fr8 zc8 zr9 fr9 zc9; have zr0 : w8.cell? ⟨w.heap.size, 0, none⟩ = some (.int .i64 0) := (blk_cell G.out.r 0).trans rfl; have fr0 : w8.frozen? ⟨w.heap.size, 0, none⟩ = false := blk_frozen G.out.r 0; have zr1 : w8.cell? ⟨w.heap.size, 1, none⟩ = some (.string ⟨#[]⟩) := (blk_cell G.out.r 1).trans rfl; have fr1 : w8.frozen? ⟨w.heap.size, 1, none⟩ = false := blk_frozen G.out.r 1; have zr2 : w8.cell? ⟨w.heap.size, 2, none⟩ = some (.string ⟨#[]⟩) := (blk_cell G.out.r 2).trans rfl; have fr2 : w8.frozen? ⟨w.heap.size, 2, none⟩ = false := blk_frozen G.out.r 2; have zr3 : w8.cell? ⟨w.heap.size, 3, none⟩ = some (.string ⟨#[]⟩) := (blk_cell G.out.r 3).trans rfl; have fr3 : w8.frozen? ⟨w.heap.size, 3, none⟩ = false := blk_frozen G.out.r 3; have zr4 : w8.cell? ⟨w.heap.size, 4, none⟩ = some (.string ⟨#[]⟩) := (blk_cell G.out.r 4).trans rfl; have fr4 : w8.frozen? ⟨w.heap.size, 4, none⟩ = false := blk_frozen G.out.r 4; have zr5 : w8.cell? ⟨w.heap.size, 5, none⟩ = some (.slice none 0 0) := (blk_cell G.out.r 5).trans rfl; have fr5 : w8.frozen? ⟨w.heap.size, 5, none⟩ = false := blk_frozen G.out.r 5; have zr6 : w8.cell? ⟨w.heap.size, 6, none⟩ = some (.int .i64 0) := (blk_cell G.out.r 6).trans rfl; have fr6 : w8.frozen? ⟨w.heap.size, 6, none⟩ = false := blk_frozen G.out.r 6; have zr7 : w8.cell? ⟨w.heap.size, 7, none⟩ = some (.int .i64 0) := (blk_cell G.out.r 7).trans rfl; have fr7 : w8.frozen? ⟨w.heap.size, 7, none⟩ = false := blk_frozen G.out.r 7; have zr8 : w8.cell? ⟨w.heap.size, 8, none⟩ = some (.int .i64 0) := (blk_cell G.out.r 8).trans rfl; have fr8 : w8.frozen? ⟨w.heap.size, 8, none⟩ = false := blk_frozen G.out.r 8; have zr9 : w8.cell? ⟨w.heap.size, 9, none⟩ = some (.int .i64 0) := (blk_cell G.out.r 9).trans rfl; have fr9 : w8.frozen? ⟨w.heap.size, 9, none⟩ = false := blk_frozen G.out.r 9; have zc0 : w8.cell? ⟨w2.heap.size, 0, none⟩ = some (.int .i64 k) := (blk_cell G.out.c 0).trans rfl; have zc1 : w8.cell? ⟨w2.heap.size, 1, none⟩ = some (.string who) := (blk_cell G.out.c 1).trans rfl; have zc2 : w8.cell? ⟨w2.heap.size, 2, none⟩ = some (.string nm) := (blk_cell G.out.c 2).trans rfl; have zc3 : w8.cell? ⟨w2.heap.size, 3, none⟩ = some (.string ot) := (blk_cell G.out.c 3).trans rfl; have zc4 : w8.cell? ⟨w2.heap.size, 4, none⟩ = some (.string tx) := (blk_cell G.out.c 4).trans rfl; have zc5 : w8.cell? ⟨w2.heap.size, 5, none⟩ = some (.slice A wd.length cap) := (blk_cell G.out.c 5).trans rfl; have zc6 : w8.cell? ⟨w2.heap.size, 6, none⟩ = some (.int .i64 a) := (blk_cell G.out.c 6).trans rfl; have zc7 : w8.cell? ⟨w2.heap.size, 7, none⟩ = some (.int .i64 b) := (blk_cell G.out.c 7).trans rfl; have zc8 : w8.cell? ⟨w2.heap.size, 8, none⟩ = some (.int .i64 c) := (blk_cell G.out.c 8).trans rfl; have zc9 : w8.cell? ⟨w2.heap.size, 9, none⟩ = some (.int .i64 d) := (blk_cell G.out.c 9).trans rfl))
            (try simp only [Exit.inBlock, Exit.then])
            refine bodyPost_ret (results_ct rfl _ _ w.heap.size 28 #[.int .i64 k, .string who, .string nm, .string ot, .string tx, .slice A wd.length cap, .int .i64 a, .int .i64 b, .int .i64 c, .int .i64 d] (0, 0) _ rfl (put10 G.out.r _ _ _ _ _ _ _ _ _ _) Try.underlying28 rfl (by kernel_rfl)) rfl ?_
            have HF := row_C (put10_row HR8.out G.out.r (by decide) (.int .i64 k) (.string who) (.string nm) (.string ot) (.string tx) (.slice A wd.length cap) (.int .i64 a) (.int .i64 b) (.int .i64 c) (.int .i64 d))
            exact told_ok HT.out HF.1 HF.2 (put10_below G.out.b (Nat.le_refl _) _ _ _ _ _ _ _ _ _ _)
          · have HT : Aside0 (getC s = (zeroV, 4)) := ⟨by unfold getC goodV; rw [HQ.out.1, HQ.out.2.1, HQ.out.2.2, if_neg (by simp)]; simp only [hgd]; simp [hz9]⟩
            have HEN : Aside0 (inEnd s9 0 = 4) := ⟨by unfold inEnd; rw [if_pos rfl, if_neg hz9]⟩
            clear hgd hz9
            go_wp2_with (first
              | (go_at_call 56; refine (err_quiet gi s9 0 _ G.out.i).mono ?_; rintro e w' ⟨rfl, rfl⟩)
              | (go_at_call 57; refine (end_quiet gi s9 0 _ G.out.i).mono ?_; rintro e w' ⟨rfl, rfl⟩; rw [HEN.out])
              | (go_at_call 15; (with_reducible refine (cGood_calls k who nm ot tx A cap wd a b c d _ (by omega) (by omega) (by omega) HCW.out.1 HCW.out.2).mono ?_); rintro e w8 ⟨rfl, hb8⟩; rw [HGD.out]; have G8 := Aside0.mk (G.out.quiet hb8); clear hb8 G; have G := G8; clear G8 zr0 fr0 zc0 zr1 fr1 zc1 zr2 fr2 zc2 zr3 fr3 zc3 zr4 fr4 zc4 zr5 fr5 zc5 zr6 fr6 zc6 zr7 fr7 zc7 zr8 fr8 zc8 zr9 fr9 zc9; have zr0 : w8.cell? ⟨w.heap.size, 0, none⟩ = some (.int .i64 0) := (blk_cell G.out.r 0).trans rfl; have fr0 : w8.frozen? ⟨w.heap.size, 0, none⟩ = false := blk_frozen G.out.r 0; have zr1 : w8.cell? ⟨w.heap.size, 1, none⟩ = some (.string ⟨#[]⟩) := (blk_cell G.out.r 1).trans rfl; have fr1 : w8.frozen? ⟨w.heap.size, 1, none⟩ = false := blk_frozen G.out.r 1; have zr2 : w8.cell? ⟨w.heap.size, 2, none⟩ = some (.string ⟨#[]⟩) := (blk_cell G.out.r 2).trans rfl; have fr2 : w8.frozen? ⟨w.heap.size, 2, none⟩ = false := blk_frozen G.out.r 2; have zr3 : w8.cell? ⟨w.heap.size, 3, none⟩ = some (.string ⟨#[]⟩) := (blk_cell G.out.r 3).trans rfl; have fr3 : w8.frozen? ⟨w.heap.size, 3, none⟩ = false := blk_frozen G.out.r 3; have zr4 : w8.cell? ⟨w.heap.size, 4, none⟩ = some (.string ⟨#[]⟩) := (blk_cell G.out.r 4).trans rfl; have fr4 : w8.frozen? ⟨w.heap.size, 4, none⟩ = false := blk_frozen G.out.r 4; have zr5 : w8.cell? ⟨w.heap.size, 5, none⟩ = some (.slice none 0 0) := (blk_cell G.out.r 5).trans rfl; have fr5 : w8.frozen? ⟨w.heap.size, 5, none⟩ = false := blk_frozen G.out.r 5; have zr6 : w8.cell? ⟨w.heap.size, 6, none⟩ = some (.int .i64 0) := (blk_cell G.out.r 6).trans rfl; have fr6 : w8.frozen? ⟨w.heap.size, 6, none⟩ = false := blk_frozen G.out.r 6; have zr7 : w8.cell? ⟨w.heap.size, 7, none⟩ = some (.int .i64 0) := (blk_cell G.out.r 7).trans rfl; have fr7 : w8.frozen? ⟨w.heap.size, 7, none⟩ = false := blk_frozen G.out.r 7; have zr8 : w8.cell? ⟨w.heap.size, 8, none⟩ = some (.int .i64 0) := (blk_cell G.out.r 8).trans rfl; have fr8 : w8.frozen? ⟨w.heap.size, 8, none⟩ = false := blk_frozen G.out.r 8; have zr9 : w8.cell? ⟨w.heap.size, 9, none⟩ = some (.int .i64 0) := (blk_cell G.out.r 9).trans rfl; have fr9 : w8.frozen? ⟨w.heap.size, 9, none⟩ = false := blk_frozen G.out.r 9))
            (try simp only [Exit.inBlock, Exit.then])
            refine bodyPost_ret (results_ct rfl _ _ w.heap.size 28 #[.int .i64 0, .string ⟨#[]⟩, .string ⟨#[]⟩, .string ⟨#[]⟩, .string ⟨#[]⟩, .slice none 0 0, .int .i64 0, .int .i64 0, .int .i64 0, .int .i64 0] (0, 0) _ rfl (put10 G.out.r _ _ _ _ _ _ _ _ _ _) Try.underlying28 rfl (by kernel_rfl)) rfl ?_
            exact told_zero HT.out (put10_below G.out.b (Nat.le_refl _) _ _ _ _ _ _ _ _ _ _)
      · have he2 : (e9 != 0) = true := by rw [bne_iff_ne]; exact he
        have he3 : (e9 == 0) = false := by rw [beq_eq_false_iff_ne]; exact he
        have HT : Aside0 (getC s = (zeroV, e9)) := ⟨by unfold getC; rw [HQ.out.2.2]; exact if_pos he⟩
        go_wp2_with (go_at_call 56; refine (err_quiet gi s9 e9 _ G.out.i).mono ?_; rintro e w' ⟨rfl, rfl⟩)
        (try simp only [Exit.inBlock, Exit.then])
        refine bodyPost_ret (results_ct rfl _ _ w.heap.size 28 #[.int .i64 0, .string ⟨#[]⟩, .string ⟨#[]⟩, .string ⟨#[]⟩, .string ⟨#[]⟩, .slice none 0 0, .int .i64 0, .int .i64 0, .int .i64 0, .int .i64 0] (0, 0) _ rfl (put10 G.out.r _ _ _ _ _ _ _ _ _ _) Try.underlying28 rfl (by kernel_rfl)) rfl ?_
        exact told_zero HT.out (put10_below G.out.b (Nat.le_refl _) _ _ _ _ _ _ _ _ _ _)
end Go.Proofs.Ytnajmemcdipknaa.PK
namespace Go.Proofs.Ytnajmemcdipknaa.PK
open Go.RowKit Go.Proofs.YtnajmemcdipknaaW.PrintWords Go.Proofs.YtnajmemcdipknaaW.PrintLast Go.Proofs.YtnajmemcdipknaaW.PrintMore
open Go.ChangeShapes Go.WideShapes
set_option linter.unusedVariables false
set_option linter.unusedSimpArgs false
set_option maxRecDepth 100000
structure RepV where
  code : Int
  line : Int
  col : Int
  cnt : Int
  tx : ByteArray
  ts : List ByteArray
  ms : List Nat
def zeroR : RepV := ⟨0, 0, 0, 0, ⟨#[]⟩, [], []⟩
def q0 (s : ByteArray) := inInt s 0
def q1 (s : ByteArray) := inInt (q0 s).2.1 (q0 s).2.2
def q2 (s : ByteArray) := inInt (q1 s).2.1 (q1 s).2.2
def q3 (s : ByteArray) := inInt (q2 s).2.1 (q2 s).2.2
def q4 (s : ByteArray) := inText (q3 s).2.1 (q3 s).2.2
def q5 (s : ByteArray) := inTexts (q4 s).2.1 (q4 s).2.2 4096
def q6 (s : ByteArray) := inTexts (q5 s).2.1 (q5 s).2.2 4096
def badMs (l : List ByteArray) : Bool := l.any fun x => decide ((getM x).2 ≠ 0)
def valMs (l : List ByteArray) : List Nat := l.map fun x => (getM x).1
def getR (s : ByteArray) : RepV × Int :=
  if (q6 s).2.2 ≠ 0 then (zeroR, (q6 s).2.2) else if (q0 s).1 < 0 ∨ 20 < (q0 s).1 then (zeroR, 2) else if badMs (q6 s).1 then (zeroR, 2)
  else if (q6 s).2.1.size = 0 then (⟨(q0 s).1, (q1 s).1, (q2 s).1, (q3 s).1, (q4 s).1, (q5 s).1, valMs (q6 s).1⟩, 0) else (zeroR, 4)
/-- All blocks of one type are as they were. -/
def SameT (t : TypeId) (W W' : World) : Prop := ∀ (k : Nat) (cells : Array Value) (fr : Nat × Nat), W.heap[k]? = some (Obj.cells cells t fr) → W'.heap[k]? = W.heap[k]?
section
variable {t : TypeId} {W W' W2 : World}
theorem SameT.refl (t : TypeId) (W : World) : SameT t W W := fun _ _ _ _ => rfl
theorem SameT.trans (h : SameT t W W') (k : SameT t W' W2) : SameT t W W2 := fun i c f hi => (k i c f ((h i c f hi).trans hi)).trans (h i c f hi)
theorem SameT.below (h : Below W.heap.size W W') : SameT t W W' := fun i c f hi => h.block i (blk_lt hi)
theorem SameT.keep {g : Nat} {T : TypeId} {cs : Array Value} {fr : Nat × Nat} (hk : KeepBut W W' g none) (hg : W.heap[g]? = some (.cells cs T fr)) (hT : t ≠ T) : SameT t W W' := fun i c f hi =>
  hk.2 i (blk_lt hi) (fun e => by subst e; rw [hg] at hi; injection hi with hi; injection hi with _ h2; exact hT h2.symm) (by simp)
theorem SameT.set_ {g : Nat} {T : TypeId} {cs : Array Value} {fr : Nat × Nat} (hg : W.heap[g]? = some (.cells cs T fr)) (hT : t ≠ T) (i : Nat) (u : Value) : SameT t W (W.setCell ⟨g, i, none⟩ u) := fun k c f hi =>
  Below.heap_setCell W ⟨g, i, none⟩ u k (fun e => by subst e; rw [hg] at hi; injection hi with hi; injection hi with _ h2; exact hT h2.symm)
theorem SameT.grown {e : TypeId} {b n sz : Nat} {v : Value} {xs : List Value} (hg : W.grownBy W' v.ownBlock) (ho : W.ownsRow b e sz v n xs) (he : t ≠ e) : SameT t W W' := fun k c f hi =>
  hg.block k (blk_lt hi) (fun hk => by obtain ⟨c2, h2⟩ := own_typed ho k hk.symm; rw [h2] at hi; injection hi with hi; injection hi with _ h3; exact he h3.symm)
theorem own_same {b n sz : Nat} {v : Value} {xs : List Value} (h : W.ownsRow b t sz v n xs) (k : SameT t W W') : W'.ownsRow b t sz v n xs := own_move h (fun i hi => by obtain ⟨c, hc⟩ := own_typed h i hi; exact k i c _ hc)
theorem blk_same {g : Nat} {cs : Array Value} {fr : Nat × Nat} (h : W.heap[g]? = some (.cells cs t fr)) (k : SameT t W W') : W'.heap[g]? = some (.cells cs t fr) := (k g cs fr h).trans h
end
theorem put7 {W : World} {g : Nat} {T : TypeId} {c0 c1 c2 c3 c4 c5 c6 : Value} (h : W.heap[g]? = some (.cells #[c0, c1, c2, c3, c4, c5, c6] T (0, 0))) (v0 v1 v2 v3 v4 v5 v6 : Value) :
    (((((((W.setCell ⟨g, 0, none⟩ v0).setCell ⟨g, 1, none⟩ v1).setCell ⟨g, 2, none⟩ v2).setCell ⟨g, 3, none⟩ v3).setCell ⟨g, 4, none⟩ v4).setCell ⟨g, 5, none⟩ v5).setCell ⟨g, 6, none⟩ v6).heap[g]? = some (.cells #[v0, v1, v2, v3, v4, v5, v6] T (0, 0)) := by
  have h0 : Blk (W.setCell ⟨g, 0, none⟩ v0) g T #[v0, c1, c2, c3, c4, c5, c6] := Blk.set_ (show Blk W g T _ from h) 0 v0
  have h1 : Blk ((W.setCell ⟨g, 0, none⟩ v0).setCell ⟨g, 1, none⟩ v1) g T #[v0, v1, c2, c3, c4, c5, c6] := Blk.set_ h0 1 v1
  have h2 : Blk (((W.setCell ⟨g, 0, none⟩ v0).setCell ⟨g, 1, none⟩ v1).setCell ⟨g, 2, none⟩ v2) g T #[v0, v1, v2, c3, c4, c5, c6] := Blk.set_ h1 2 v2
  have h3 : Blk ((((W.setCell ⟨g, 0, none⟩ v0).setCell ⟨g, 1, none⟩ v1).setCell ⟨g, 2, none⟩ v2).setCell ⟨g, 3, none⟩ v3) g T #[v0, v1, v2, v3, c4, c5, c6] := Blk.set_ h2 3 v3
  have h4 : Blk (((((W.setCell ⟨g, 0, none⟩ v0).setCell ⟨g, 1, none⟩ v1).setCell ⟨g, 2, none⟩ v2).setCell ⟨g, 3, none⟩ v3).setCell ⟨g, 4, none⟩ v4) g T #[v0, v1, v2, v3, v4, c5, c6] := Blk.set_ h3 4 v4
  have h5 : Blk ((((((W.setCell ⟨g, 0, none⟩ v0).setCell ⟨g, 1, none⟩ v1).setCell ⟨g, 2, none⟩ v2).setCell ⟨g, 3, none⟩ v3).setCell ⟨g, 4, none⟩ v4).setCell ⟨g, 5, none⟩ v5) g T #[v0, v1, v2, v3, v4, v5, c6] := Blk.set_ h4 5 v5
  have h6 : Blk (((((((W.setCell ⟨g, 0, none⟩ v0).setCell ⟨g, 1, none⟩ v1).setCell ⟨g, 2, none⟩ v2).setCell ⟨g, 3, none⟩ v3).setCell ⟨g, 4, none⟩ v4).setCell ⟨g, 5, none⟩ v5).setCell ⟨g, 6, none⟩ v6) g T #[v0, v1, v2, v3, v4, v5, v6] := Blk.set_ h5 6 v6
  exact h6
theorem put7_below {w W : World} {g : Nat} (h : Below w.heap.size w W) (hg : w.heap.size ≤ g) (v0 v1 v2 v3 v4 v5 v6 : Value) : Below w.heap.size w (((((((W.setCell ⟨g, 0, none⟩ v0).setCell ⟨g, 1, none⟩ v1).setCell ⟨g, 2, none⟩ v2).setCell ⟨g, 3, none⟩ v3).setCell ⟨g, 4, none⟩ v4).setCell ⟨g, 5, none⟩ v5).setCell ⟨g, 6, none⟩ v6) :=
  (below_set (below_set (below_set (below_set (below_set (below_set (below_set h hg) hg) hg) hg) hg) hg) hg)
theorem put7_far {W : World} {g : Nat} (v0 v1 v2 v3 v4 v5 v6 : Value) (k : Nat) (hk : k ≠ g) : (((((((W.setCell ⟨g, 0, none⟩ v0).setCell ⟨g, 1, none⟩ v1).setCell ⟨g, 2, none⟩ v2).setCell ⟨g, 3, none⟩ v3).setCell ⟨g, 4, none⟩ v4).setCell ⟨g, 5, none⟩ v5).setCell ⟨g, 6, none⟩ v6).heap[k]? = W.heap[k]? := by
  simp only [Below.heap_setCell _ ⟨g, _, none⟩ _ k hk]
theorem put7_same {t : TypeId} {W : World} {g : Nat} {T : TypeId} {cs : Array Value} (h : W.heap[g]? = some (.cells cs T (0, 0))) (hT : t ≠ T) (v0 v1 v2 v3 v4 v5 v6 : Value) : SameT t W (((((((W.setCell ⟨g, 0, none⟩ v0).setCell ⟨g, 1, none⟩ v1).setCell ⟨g, 2, none⟩ v2).setCell ⟨g, 3, none⟩ v3).setCell ⟨g, 4, none⟩ v4).setCell ⟨g, 5, none⟩ v5).setCell ⟨g, 6, none⟩ v6) := fun k c f hi =>
  put7_far v0 v1 v2 v3 v4 v5 v6 k (fun e => by subst e; rw [h] at hi; injection hi with hi; injection hi with _ h2; exact hT h2.symm)
/-- What a reader of a reply tells, field by field. -/
def ToldR (x : RepV) (er : Int) (w : World) (e : Ending) (w' : World) : Prop :=
  ∃ A cap M capm, e = .returned (.tuple #[.agg #[.int .i64 x.code, .int .i64 x.line, .int .i64 x.col, .int .i64 x.cnt, .string x.tx, .slice A x.ts.length cap, .slice M x.ms.length capm], .int .i64 er]) ∧
    Kd.C Kd.string w' A x.ts.length x.ts ∧ x.ts.length ≤ cap ∧ Kd.C kF w' M x.ms.length x.ms ∧ x.ms.length ≤ capm ∧ Below w.heap.size w w'
theorem toldR_zero {w w' : World} {er : Int} (hb : Below w.heap.size w w') : ToldR zeroR er w (.returned (.tuple #[.agg #[.int .i64 0, .int .i64 0, .int .i64 0, .int .i64 0, .string ⟨#[]⟩, .slice none 0 0, .slice none 0 0], .int .i64 er])) w' :=
  ⟨none, 0, none, 0, rfl, Kd.C_nil _ _, Nat.le_refl _, Kd.C_nil _ _, Nat.le_refl _, hb⟩
theorem toldR_z {s : ByteArray} {w w' : World} {er : Int} (h : getR s = (zeroR, er)) (hb : Below w.heap.size w w') : ToldR (getR s).1 (getR s).2 w (.returned (.tuple #[.agg #[.int .i64 0, .int .i64 0, .int .i64 0, .int .i64 0, .string ⟨#[]⟩, .slice none 0 0, .slice none 0 0], .int .i64 er])) w' := by
  rw [h]; exact toldR_zero hb
theorem own_CF {W : World} {base : Nat} {B : Option Addr} {c1 : Nat} {ms : List Nat} (h : W.ownsRow base 120 1 (.slice B ms.length c1) ms.length (encs (Value.float .f64) ms)) : Kd.C kF W B ms.length ms ∧ ms.length ≤ c1 := by
  obtain ⟨B', c', he, hl, hR⟩ := own_reads_of_le (d := (0 : Nat)) h
  injection he with h1 h2 h3
  subst h1; subst h3
  exact ⟨Kd.C_of_reads (d := (0 : Nat)) hR, hl⟩
theorem toldR_ok {s : ByteArray} {w w' : World} {A : Option Addr} {cap : Nat} {M : Option Addr} {capm n base b5 : Nat} {code line col cnt : Int} {tx : ByteArray} {ts : List ByteArray} {ms : List Nat} (h : getR s = (⟨code, line, col, cnt, tx, ts, ms⟩, 0)) (hn : ms.length = n)
    (h1 : w'.ownsRow b5 9 1 (.slice A ts.length cap) ts.length (encs Value.string ts)) (h3 : w'.ownsRow base 120 1 (.slice M n capm) n (encs (Value.float .f64) ms)) (hb : Below w.heap.size w w') :
    ToldR (getR s).1 (getR s).2 w (.returned (.tuple #[.agg #[.int .i64 code, .int .i64 line, .int .i64 col, .int .i64 cnt, .string tx, .slice A ts.length cap, .slice M n capm], .int .i64 0])) w' := by
  subst hn
  rw [h]
  have h4 := own_CF h3
  have h2 := own_C h1
  exact ⟨A, cap, M, capm, rfl, h2.1, h2.2, h4.1, h4.2, hb⟩
theorem info120 : (Try.prog.info? 120).map (fun i => (i.zero, i.size, i.bytes)) = some (some (.float .f64 0), 1, 8) := by kernel_rfl
end Go.Proofs.Ytnajmemcdipknaa.PK
