/- command.Get, the walk: it tells getC. Condition: none.
The document's Get for a command, the walk: it tells getC. Condition: no more than 2^47 bytes.
Commands, the plain law: what a good command writes is read again. Condition: none.
Commands, the plain law's converse: what is read without an error is what the read command writes. Condition: none. -/
import Derived.Test.YtnajmemcdipknaaHj
import Derived.Test.YtnajmemcdipknaaHg
namespace Go.Proofs.Ytnajmemcdipknaa.PK
open Go.RowKit Go.Proofs.YtnajmemcdipknaaW.PrintWords Go.Proofs.YtnajmemcdipknaaW.PrintLast Go.Proofs.YtnajmemcdipknaaW.PrintMore
open Go.ChangeShapes Go.WideShapes
set_option linter.unusedVariables false
set_option linter.unusedSimpArgs false
set_option maxRecDepth 100000
theorem GetSt.isIn {w W : World} {gr gi gc : Nat} {TC : TypeId} {s : ByteArray} {e : Int} {cs zs : Array Value} (h : GetSt w W gr gi gc TC 153 s e cs zs) : IsS153 w W gi s e := ⟨h.i, h.li⟩
/-- What a reader of a command tells. -/
def Told (s : ByteArray) (w : World) (e : Ending) (w' : World) : Prop :=
  ∃ A cap, e = .returned (.tuple #[.agg (cellsV (getC s).1 A cap), .int .i64 (getC s).2]) ∧ Kd.C Kd.string w' A (getC s).1.wd.length (getC s).1.wd ∧ (getC s).1.wd.length ≤ cap ∧ Below w.heap.size w w'
theorem row_C {W : World} {base : Nat} {A : Option Addr} {cap : Nat} {xs : List ByteArray} (h : Kd.R Kd.string 9 W base (fun _ => True) (.slice A xs.length cap) xs) : Kd.C Kd.string W A xs.length xs ∧ xs.length ≤ cap := by
  obtain ⟨A', c', he, hl, hC⟩ := Kd.R_reads h
  injection he with h1 h2 h3
  subst h1; subst h3
  exact ⟨hC, hl⟩
theorem nil_C (w : World) : Kd.C Kd.string w none (zeroV.wd).length zeroV.wd := ⟨rfl, by simp [zeroV], fun h => absurd h (by simp [zeroV])⟩
theorem told_zero {s : ByteArray} {w w' : World} {x : Int} (h : getC s = (zeroV, x)) (hb : Below w.heap.size w w') : Told s w (.returned (.tuple #[.agg #[.int .i64 0, .string ⟨#[]⟩, .string ⟨#[]⟩, .string ⟨#[]⟩, .string ⟨#[]⟩, .slice none 0 0, .int .i64 0, .int .i64 0, .int .i64 0, .int .i64 0], .int .i64 x])) w' := by
  refine ⟨none, 0, ?_, ?_, ?_, hb⟩
  · rw [h]; rfl
  · rw [h]; exact nil_C w'
  · rw [h]; exact Nat.le_refl _
theorem told_ok {s : ByteArray} {w w' : World} {A : Option Addr} {cap : Nat} {k : Int} {who nm ot tx : ByteArray} {wd : List ByteArray} {a b c d : Int} (h : getC s = (⟨k, who, nm, ot, tx, wd, a, b, c, d⟩, 0)) (hC : Kd.C Kd.string w' A wd.length wd) (hc : wd.length ≤ cap) (hb : Below w.heap.size w w') :
    Told s w (.returned (.tuple #[.agg #[.int .i64 k, .string who, .string nm, .string ot, .string tx, .slice A wd.length cap, .int .i64 a, .int .i64 b, .int .i64 c, .int .i64 d], .int .i64 0])) w' := by
  refine ⟨A, cap, ?_, ?_, ?_, hb⟩
  · rw [h]; rfl
  · rw [h]; exact hC
  · rw [h]; exact hc
set_option maxHeartbeats 6400000 in
theorem cGet_calls (s : ByteArray) (w : World) : Calls Try.prog 18 #[.string s] w (Told s w) := by
  have hu := Try.underlying28
  obtain ⟨k, s0, e0, hq0⟩ : ∃ v s' e', rk s = (v, s', e') := ⟨_, _, _, rfl⟩
  have H0 : Aside0 (inInt s 0 = (k, s0, e0)) := ⟨by have h := hq0; unfold rk at h; exact h⟩
  obtain ⟨who, s1, e1, hq1⟩ : ∃ v s' e', r1 s = (v, s', e') := ⟨_, _, _, rfl⟩
  have H1 : Aside0 (inText s0 e0 = (who, s1, e1)) := ⟨by have h := hq1; unfold r1 at h; rw [hq0] at h; exact h⟩
  obtain ⟨nm, s2, e2, hq2⟩ : ∃ v s' e', r2 s = (v, s', e') := ⟨_, _, _, rfl⟩
  have H2 : Aside0 (inText s1 e1 = (nm, s2, e2)) := ⟨by have h := hq2; unfold r2 at h; rw [hq1] at h; exact h⟩
  obtain ⟨ot, s3, e3, hq3⟩ : ∃ v s' e', r3 s = (v, s', e') := ⟨_, _, _, rfl⟩
  have H3 : Aside0 (inText s2 e2 = (ot, s3, e3)) := ⟨by have h := hq3; unfold r3 at h; rw [hq2] at h; exact h⟩
  obtain ⟨tx, s4, e4, hq4⟩ : ∃ v s' e', r4 s = (v, s', e') := ⟨_, _, _, rfl⟩
  have H4 : Aside0 (inText s3 e3 = (tx, s4, e4)) := ⟨by have h := hq4; unfold r4 at h; rw [hq3] at h; exact h⟩
  obtain ⟨wd, s5, e5, hq5⟩ : ∃ v s' e', r5 s = (v, s', e') := ⟨_, _, _, rfl⟩
  have H5 : Aside0 (inTexts s4 e4 64 = (wd, s5, e5)) := ⟨by have h := hq5; unfold r5 at h; rw [hq4] at h; exact h⟩
  obtain ⟨a, s6, e6, hq6⟩ : ∃ v s' e', r6 s = (v, s', e') := ⟨_, _, _, rfl⟩
  have H6 : Aside0 (inInt s5 e5 = (a, s6, e6)) := ⟨by have h := hq6; unfold r6 at h; rw [hq5] at h; exact h⟩
  obtain ⟨b, s7, e7, hq7⟩ : ∃ v s' e', r7 s = (v, s', e') := ⟨_, _, _, rfl⟩
  have H7 : Aside0 (inInt s6 e6 = (b, s7, e7)) := ⟨by have h := hq7; unfold r7 at h; rw [hq6] at h; exact h⟩
  obtain ⟨c, s8, e8, hq8⟩ : ∃ v s' e', r8 s = (v, s', e') := ⟨_, _, _, rfl⟩
  have H8 : Aside0 (inInt s7 e7 = (c, s8, e8)) := ⟨by have h := hq8; unfold r8 at h; rw [hq7] at h; exact h⟩
  obtain ⟨d, s9, e9, hq9⟩ : ∃ v s' e', r9 s = (v, s', e') := ⟨_, _, _, rfl⟩
  have H9 : Aside0 (inInt s8 e8 = (d, s9, e9)) := ⟨by have h := hq9; unfold r9 at h; rw [hq8] at h; exact h⟩
  have HQ : Aside0 (readC s = ⟨k, who, nm, ot, tx, wd, a, b, c, d⟩ ∧ (r9 s).2.1 = s9 ∧ (r9 s).2.2 = e9) := ⟨by unfold readC; rw [hq0, hq1, hq2, hq3, hq4, hq5, hq6, hq7, hq8, hq9], by rw [hq9], by rw [hq9]⟩
  clear hq0 hq1 hq2 hq3 hq4 hq5 hq6 hq7 hq8 hq9
  go_enter Try.func18, Try.ntmps18
  go_wp2_with fail
  have hn := heap_alloc_new w (.cells #[.int .i64 0, .string ⟨#[]⟩, .string ⟨#[]⟩, .string ⟨#[]⟩, .string ⟨#[]⟩, .slice none 0 0, .int .i64 0, .int .i64 0, .int .i64 0, .int .i64 0] 28)
  have hb0 := below_alloc (Below.refl w.heap.size w) (.cells #[.int .i64 0, .string ⟨#[]⟩, .string ⟨#[]⟩, .string ⟨#[]⟩, .string ⟨#[]⟩, .slice none 0 0, .int .i64 0, .int .i64 0, .int .i64 0, .int .i64 0] 28)
  refine (octets_Open.calls s s 0 w _ hb0 rfl).mono ?_
  rintro e w2 ⟨gi, rfl, hi2, hb2, hbb⟩
  have hr2 := (hbb.block w.heap.size (blk_lt hn)).trans hn
  have hne : w.heap.size ≠ gi := blk_ne hr2 hi2.1 (by decide)
  have hlt := blk_lt hi2.1
  have hlr := blk_lt hr2
  have hn3 := heap_alloc_new w2 (.cells #[.int .i64 0, .string ⟨#[]⟩, .string ⟨#[]⟩, .string ⟨#[]⟩, .string ⟨#[]⟩, .slice none 0 0, .int .i64 0, .int .i64 0, .int .i64 0, .int .i64 0] 28)
  have hb3 := below_alloc (Below.refl w2.heap.size w2) (.cells #[.int .i64 0, .string ⟨#[]⟩, .string ⟨#[]⟩, .string ⟨#[]⟩, .string ⟨#[]⟩, .slice none 0 0, .int .i64 0, .int .i64 0, .int .i64 0, .int .i64 0] 28)
  have G : Aside0 (GetSt w (w2.alloc (.cells #[.int .i64 0, .string ⟨#[]⟩, .string ⟨#[]⟩, .string ⟨#[]⟩, .string ⟨#[]⟩, .slice none 0 0, .int .i64 0, .int .i64 0, .int .i64 0, .int .i64 0] 28)) w.heap.size gi w2.heap.size 28 153 s 0 #[.int .i64 0, .string ⟨#[]⟩, .string ⟨#[]⟩, .string ⟨#[]⟩, .string ⟨#[]⟩, .slice none 0 0, .int .i64 0, .int .i64 0, .int .i64 0, .int .i64 0] #[.int .i64 0, .string ⟨#[]⟩, .string ⟨#[]⟩, .string ⟨#[]⟩, .string ⟨#[]⟩, .slice none 0 0, .int .i64 0, .int .i64 0, .int .i64 0, .int .i64 0]) :=
    ⟨⟨(hb3.block gi hlt).trans hi2.1, hn3, (hb3.block _ hlr).trans hr2, below_then hb2 hb2.size hb3, Nat.le_refl _, hi2.2, hb2.size, by omega, hne, by omega⟩⟩
  clear hn hb0 hi2 hb2 hbb hr2 hne hlt hlr hn3 hb3
  go_wp2_with fail
  (with_reducible refine (octets_In_Int.calls gi s 0 k s0 e0 w _ G.out.isIn G.out.b (by rw [In_Int_eq, H0.out])).mono ?_)
  rintro e wv0 ⟨rfl, hi, hb, hk⟩
  have G' := Aside0.mk (G.out.call hi.1 hb hk)
  have hz : wv0.cell? ⟨w2.heap.size, 0, none⟩ = some (.int .i64 0) := (blk_cell G'.out.c 0).trans rfl
  have hf : wv0.frozen? ⟨w2.heap.size, 0, none⟩ = false := blk_frozen G'.out.c 0
  have G'' : Aside0 (GetSt w (wv0.setCell ⟨w2.heap.size, 0, none⟩ (.int .i64 k)) w.heap.size gi w2.heap.size 28 153 s0 e0 #[.int .i64 k, .string ⟨#[]⟩, .string ⟨#[]⟩, .string ⟨#[]⟩, .string ⟨#[]⟩, .slice none 0 0, .int .i64 0, .int .i64 0, .int .i64 0, .int .i64 0] #[.int .i64 0, .string ⟨#[]⟩, .string ⟨#[]⟩, .string ⟨#[]⟩, .string ⟨#[]⟩, .slice none 0 0, .int .i64 0, .int .i64 0, .int .i64 0, .int .i64 0]) := ⟨G'.out.store 0 (.int .i64 k)⟩
  clear hi hb hk G
  have G := G''
  clear G'' G'
  go_wp2_with fail
  clear hz hf
  (with_reducible refine (octets_In_Text.calls 1 gi s0 e0 who s1 e1 w _ G.out.isIn G.out.b (by rw [In_Text_eq s0 e0 1 (by omega), H1.out])).mono ?_)
  rintro e wv1 ⟨rfl, hi, hb, hk⟩
  have G' := Aside0.mk (G.out.call hi.1 hb hk)
  have hz : wv1.cell? ⟨w2.heap.size, 1, none⟩ = some (.string ⟨#[]⟩) := (blk_cell G'.out.c 1).trans rfl
  have hf : wv1.frozen? ⟨w2.heap.size, 1, none⟩ = false := blk_frozen G'.out.c 1
  have G'' : Aside0 (GetSt w (wv1.setCell ⟨w2.heap.size, 1, none⟩ (.string who)) w.heap.size gi w2.heap.size 28 153 s1 e1 #[.int .i64 k, .string who, .string ⟨#[]⟩, .string ⟨#[]⟩, .string ⟨#[]⟩, .slice none 0 0, .int .i64 0, .int .i64 0, .int .i64 0, .int .i64 0] #[.int .i64 0, .string ⟨#[]⟩, .string ⟨#[]⟩, .string ⟨#[]⟩, .string ⟨#[]⟩, .slice none 0 0, .int .i64 0, .int .i64 0, .int .i64 0, .int .i64 0]) := ⟨G'.out.store 1 (.string who)⟩
  clear hi hb hk G
  have G := G''
  clear G'' G'
  go_wp2_with fail
  clear hz hf
  (with_reducible refine (octets_In_Text.calls 1 gi s1 e1 nm s2 e2 w _ G.out.isIn G.out.b (by rw [In_Text_eq s1 e1 1 (by omega), H2.out])).mono ?_)
  rintro e wv2 ⟨rfl, hi, hb, hk⟩
  have G' := Aside0.mk (G.out.call hi.1 hb hk)
  have hz : wv2.cell? ⟨w2.heap.size, 2, none⟩ = some (.string ⟨#[]⟩) := (blk_cell G'.out.c 2).trans rfl
  have hf : wv2.frozen? ⟨w2.heap.size, 2, none⟩ = false := blk_frozen G'.out.c 2
  have G'' : Aside0 (GetSt w (wv2.setCell ⟨w2.heap.size, 2, none⟩ (.string nm)) w.heap.size gi w2.heap.size 28 153 s2 e2 #[.int .i64 k, .string who, .string nm, .string ⟨#[]⟩, .string ⟨#[]⟩, .slice none 0 0, .int .i64 0, .int .i64 0, .int .i64 0, .int .i64 0] #[.int .i64 0, .string ⟨#[]⟩, .string ⟨#[]⟩, .string ⟨#[]⟩, .string ⟨#[]⟩, .slice none 0 0, .int .i64 0, .int .i64 0, .int .i64 0, .int .i64 0]) := ⟨G'.out.store 2 (.string nm)⟩
  clear hi hb hk G
  have G := G''
  clear G'' G'
  go_wp2_with fail
  clear hz hf
  (with_reducible refine (octets_In_Text.calls 1 gi s2 e2 ot s3 e3 w _ G.out.isIn G.out.b (by rw [In_Text_eq s2 e2 1 (by omega), H3.out])).mono ?_)
  rintro e wv3 ⟨rfl, hi, hb, hk⟩
  have G' := Aside0.mk (G.out.call hi.1 hb hk)
  have hz : wv3.cell? ⟨w2.heap.size, 3, none⟩ = some (.string ⟨#[]⟩) := (blk_cell G'.out.c 3).trans rfl
  have hf : wv3.frozen? ⟨w2.heap.size, 3, none⟩ = false := blk_frozen G'.out.c 3
  have G'' : Aside0 (GetSt w (wv3.setCell ⟨w2.heap.size, 3, none⟩ (.string ot)) w.heap.size gi w2.heap.size 28 153 s3 e3 #[.int .i64 k, .string who, .string nm, .string ot, .string ⟨#[]⟩, .slice none 0 0, .int .i64 0, .int .i64 0, .int .i64 0, .int .i64 0] #[.int .i64 0, .string ⟨#[]⟩, .string ⟨#[]⟩, .string ⟨#[]⟩, .string ⟨#[]⟩, .slice none 0 0, .int .i64 0, .int .i64 0, .int .i64 0, .int .i64 0]) := ⟨G'.out.store 3 (.string ot)⟩
  clear hi hb hk G
  have G := G''
  clear G'' G'
  go_wp2_with fail
  clear hz hf
  (with_reducible refine (octets_In_Text.calls 1 gi s3 e3 tx s4 e4 w _ G.out.isIn G.out.b (by rw [In_Text_eq s3 e3 1 (by omega), H4.out])).mono ?_)
  rintro e wv4 ⟨rfl, hi, hb, hk⟩
  have G' := Aside0.mk (G.out.call hi.1 hb hk)
  have hz : wv4.cell? ⟨w2.heap.size, 4, none⟩ = some (.string ⟨#[]⟩) := (blk_cell G'.out.c 4).trans rfl
  have hf : wv4.frozen? ⟨w2.heap.size, 4, none⟩ = false := blk_frozen G'.out.c 4
  have G'' : Aside0 (GetSt w (wv4.setCell ⟨w2.heap.size, 4, none⟩ (.string tx)) w.heap.size gi w2.heap.size 28 153 s4 e4 #[.int .i64 k, .string who, .string nm, .string ot, .string tx, .slice none 0 0, .int .i64 0, .int .i64 0, .int .i64 0, .int .i64 0] #[.int .i64 0, .string ⟨#[]⟩, .string ⟨#[]⟩, .string ⟨#[]⟩, .string ⟨#[]⟩, .slice none 0 0, .int .i64 0, .int .i64 0, .int .i64 0, .int .i64 0]) := ⟨G'.out.store 4 (.string tx)⟩
  clear hi hb hk G
  have G := G''
  clear G'' G'
  go_wp2_with fail
  clear hz hf
  (with_reducible refine (octets_In_Texts.calls 65539 gi s4 e4 64 wd s5 e5 w _ G.out.isIn G.out.b (by rw [In_Texts_eq s4 e4 64 65539 (by omega), H5.out])).mono ?_)
  rintro e wv5 ⟨v0, rfl, hR, hi, hb, hk⟩
  obtain ⟨A, cap, ha, hcap, _⟩ := Kd.R_reads hR
  subst ha
  have G' := Aside0.mk (G.out.call hi.1 hb hk)
  have hz : wv5.cell? ⟨w2.heap.size, 5, none⟩ = some (.slice none 0 0) := (blk_cell G'.out.c 5).trans rfl
  have hf : wv5.frozen? ⟨w2.heap.size, 5, none⟩ = false := blk_frozen G'.out.c 5
  have G'' : Aside0 (GetSt w (wv5.setCell ⟨w2.heap.size, 5, none⟩ (.slice A wd.length cap)) w.heap.size gi w2.heap.size 28 153 s5 e5 #[.int .i64 k, .string who, .string nm, .string ot, .string tx, .slice A wd.length cap, .int .i64 0, .int .i64 0, .int .i64 0, .int .i64 0] #[.int .i64 0, .string ⟨#[]⟩, .string ⟨#[]⟩, .string ⟨#[]⟩, .string ⟨#[]⟩, .slice none 0 0, .int .i64 0, .int .i64 0, .int .i64 0, .int .i64 0]) := ⟨G'.out.store 5 (.slice A wd.length cap)⟩
  have R'' := Aside0.mk (row_store hR G'.out.c (by decide) 5 (.slice A wd.length cap))
  obtain ⟨bs, hbs⟩ : ∃ bs, bs = (wv5.heap.size) := ⟨_, rfl⟩
  clear hi hb hk G hR hbs
  have G := G''
  have HR6 := R''
  clear G'' G' R''
  go_wp2_with fail
  clear hz hf
  go_loopw [6, 29] (fun _ i wr => ∃ j : Nat, j ≤ 4 ∧ i = .int .i64 j ∧ Aside0 (GetSt w wr w.heap.size gi w2.heap.size 28 153 ([s5, s6, s7, s8, s9].getD j s9) ([e5, e6, e7, e8, e9].getD j e9) #[.int .i64 k, .string who, .string nm, .string ot, .string tx, .slice A wd.length cap, .int .i64 (if 0 < j then a else 0), .int .i64 (if 1 < j then b else 0), .int .i64 (if 2 < j then c else 0), .int .i64 (if 3 < j then d else 0)] #[.int .i64 0, .string ⟨#[]⟩, .string ⟨#[]⟩, .string ⟨#[]⟩, .string ⟨#[]⟩, .slice none 0 0, .int .i64 0, .int .i64 0, .int .i64 0, .int .i64 0]) ∧ Aside0 (Kd.R Kd.string 9 wr (wv4.setCell ⟨w2.heap.size, 4, none⟩ (.string tx)).heap.size (fun _ => True) (.slice A wd.length cap) wd)) (fun _ i _ => 4 - (intOf i).toNat)
  case atStart => exact ⟨0, Nat.zero_le _, rfl, ⟨G.out⟩, HR6⟩
  case round =>
    obtain ⟨j, hj, rfl, HG, HRW⟩ := hrel
    clear G HR6
    rcases (show j = 0 ∨ j = 1 ∨ j = 2 ∨ j = 3 ∨ j = 4 from by omega) with rfl | rfl | rfl | rfl | rfl
    · have G : Aside0 (GetSt w wr w.heap.size gi w2.heap.size 28 153 s5 e5 #[.int .i64 k, .string who, .string nm, .string ot, .string tx, .slice A wd.length cap, .int .i64 0, .int .i64 0, .int .i64 0, .int .i64 0] #[.int .i64 0, .string ⟨#[]⟩, .string ⟨#[]⟩, .string ⟨#[]⟩, .string ⟨#[]⟩, .slice none 0 0, .int .i64 0, .int .i64 0, .int .i64 0, .int .i64 0]) := ⟨HG.out⟩
      clear HG
      go_wp2_with fail
      (with_reducible refine (octets_In_Int.calls gi s5 e5 a s6 e6 w _ G.out.isIn G.out.b (by rw [In_Int_eq, H6.out])).mono ?_)
      rintro e wv ⟨rfl, hi, hb, hk⟩
      have G' := Aside0.mk (G.out.call hi.1 hb hk)
      have R' := Aside0.mk (row_call HRW.out G.out.i (by decide) hk)
      have hz : wv.cell? ⟨w2.heap.size, 6, none⟩ = some (.int .i64 0) := (blk_cell G'.out.c 6).trans rfl
      have hf : wv.frozen? ⟨w2.heap.size, 6, none⟩ = false := blk_frozen G'.out.c 6
      clear hi hb hk G HRW
      go_wp2_with fail
      go_roundw
      case rel => exact ⟨1, by omega, rfl, ⟨G'.out.store 6 (.int .i64 a)⟩, ⟨row_store R'.out G'.out.c (by decide) 6 (.int .i64 a)⟩⟩
      case measure => simp [intOf]
    · have G : Aside0 (GetSt w wr w.heap.size gi w2.heap.size 28 153 s6 e6 #[.int .i64 k, .string who, .string nm, .string ot, .string tx, .slice A wd.length cap, .int .i64 a, .int .i64 0, .int .i64 0, .int .i64 0] #[.int .i64 0, .string ⟨#[]⟩, .string ⟨#[]⟩, .string ⟨#[]⟩, .string ⟨#[]⟩, .slice none 0 0, .int .i64 0, .int .i64 0, .int .i64 0, .int .i64 0]) := ⟨HG.out⟩
      clear HG
      go_wp2_with fail
      (with_reducible refine (octets_In_Int.calls gi s6 e6 b s7 e7 w _ G.out.isIn G.out.b (by rw [In_Int_eq, H7.out])).mono ?_)
      rintro e wv ⟨rfl, hi, hb, hk⟩
      have G' := Aside0.mk (G.out.call hi.1 hb hk)
      have R' := Aside0.mk (row_call HRW.out G.out.i (by decide) hk)
      have hz : wv.cell? ⟨w2.heap.size, 7, none⟩ = some (.int .i64 0) := (blk_cell G'.out.c 7).trans rfl
      have hf : wv.frozen? ⟨w2.heap.size, 7, none⟩ = false := blk_frozen G'.out.c 7
      clear hi hb hk G HRW
      go_wp2_with fail
      go_roundw
      case rel => exact ⟨2, by omega, rfl, ⟨G'.out.store 7 (.int .i64 b)⟩, ⟨row_store R'.out G'.out.c (by decide) 7 (.int .i64 b)⟩⟩
      case measure => simp [intOf]
    · have G : Aside0 (GetSt w wr w.heap.size gi w2.heap.size 28 153 s7 e7 #[.int .i64 k, .string who, .string nm, .string ot, .string tx, .slice A wd.length cap, .int .i64 a, .int .i64 b, .int .i64 0, .int .i64 0] #[.int .i64 0, .string ⟨#[]⟩, .string ⟨#[]⟩, .string ⟨#[]⟩, .string ⟨#[]⟩, .slice none 0 0, .int .i64 0, .int .i64 0, .int .i64 0, .int .i64 0]) := ⟨HG.out⟩
      clear HG
      go_wp2_with fail
      (with_reducible refine (octets_In_Int.calls gi s7 e7 c s8 e8 w _ G.out.isIn G.out.b (by rw [In_Int_eq, H8.out])).mono ?_)
      rintro e wv ⟨rfl, hi, hb, hk⟩
      have G' := Aside0.mk (G.out.call hi.1 hb hk)
      have R' := Aside0.mk (row_call HRW.out G.out.i (by decide) hk)
      have hz : wv.cell? ⟨w2.heap.size, 8, none⟩ = some (.int .i64 0) := (blk_cell G'.out.c 8).trans rfl
      have hf : wv.frozen? ⟨w2.heap.size, 8, none⟩ = false := blk_frozen G'.out.c 8
      clear hi hb hk G HRW
      go_wp2_with fail
      go_roundw
      case rel => exact ⟨3, by omega, rfl, ⟨G'.out.store 8 (.int .i64 c)⟩, ⟨row_store R'.out G'.out.c (by decide) 8 (.int .i64 c)⟩⟩
      case measure => simp [intOf]
    · have G : Aside0 (GetSt w wr w.heap.size gi w2.heap.size 28 153 s8 e8 #[.int .i64 k, .string who, .string nm, .string ot, .string tx, .slice A wd.length cap, .int .i64 a, .int .i64 b, .int .i64 c, .int .i64 0] #[.int .i64 0, .string ⟨#[]⟩, .string ⟨#[]⟩, .string ⟨#[]⟩, .string ⟨#[]⟩, .slice none 0 0, .int .i64 0, .int .i64 0, .int .i64 0, .int .i64 0]) := ⟨HG.out⟩
      clear HG
      go_wp2_with fail
      (with_reducible refine (octets_In_Int.calls gi s8 e8 d s9 e9 w _ G.out.isIn G.out.b (by rw [In_Int_eq, H9.out])).mono ?_)
      rintro e wv ⟨rfl, hi, hb, hk⟩
      have G' := Aside0.mk (G.out.call hi.1 hb hk)
      have R' := Aside0.mk (row_call HRW.out G.out.i (by decide) hk)
      have hz : wv.cell? ⟨w2.heap.size, 9, none⟩ = some (.int .i64 0) := (blk_cell G'.out.c 9).trans rfl
      have hf : wv.frozen? ⟨w2.heap.size, 9, none⟩ = false := blk_frozen G'.out.c 9
      clear hi hb hk G HRW
      go_wp2_with fail
      go_roundw
      case rel => exact ⟨4, by omega, rfl, ⟨G'.out.store 9 (.int .i64 d)⟩, ⟨row_store R'.out G'.out.c (by decide) 9 (.int .i64 d)⟩⟩
      case measure => simp [intOf]
    · have G : Aside0 (GetSt w wr w.heap.size gi w2.heap.size 28 153 s9 e9 #[.int .i64 k, .string who, .string nm, .string ot, .string tx, .slice A wd.length cap, .int .i64 a, .int .i64 b, .int .i64 c, .int .i64 d] #[.int .i64 0, .string ⟨#[]⟩, .string ⟨#[]⟩, .string ⟨#[]⟩, .string ⟨#[]⟩, .slice none 0 0, .int .i64 0, .int .i64 0, .int .i64 0, .int .i64 0]) := ⟨HG.out⟩
      clear HG
      have zr0 : wr.cell? ⟨w.heap.size, 0, none⟩ = some (.int .i64 0) := (blk_cell G.out.r 0).trans rfl
      have fr0 : wr.frozen? ⟨w.heap.size, 0, none⟩ = false := blk_frozen G.out.r 0
      have zr1 : wr.cell? ⟨w.heap.size, 1, none⟩ = some (.string ⟨#[]⟩) := (blk_cell G.out.r 1).trans rfl
      have fr1 : wr.frozen? ⟨w.heap.size, 1, none⟩ = false := blk_frozen G.out.r 1
      have zr2 : wr.cell? ⟨w.heap.size, 2, none⟩ = some (.string ⟨#[]⟩) := (blk_cell G.out.r 2).trans rfl
      have fr2 : wr.frozen? ⟨w.heap.size, 2, none⟩ = false := blk_frozen G.out.r 2
      have zr3 : wr.cell? ⟨w.heap.size, 3, none⟩ = some (.string ⟨#[]⟩) := (blk_cell G.out.r 3).trans rfl
      have fr3 : wr.frozen? ⟨w.heap.size, 3, none⟩ = false := blk_frozen G.out.r 3
      have zr4 : wr.cell? ⟨w.heap.size, 4, none⟩ = some (.string ⟨#[]⟩) := (blk_cell G.out.r 4).trans rfl
      have fr4 : wr.frozen? ⟨w.heap.size, 4, none⟩ = false := blk_frozen G.out.r 4
      have zr5 : wr.cell? ⟨w.heap.size, 5, none⟩ = some (.slice none 0 0) := (blk_cell G.out.r 5).trans rfl
      have fr5 : wr.frozen? ⟨w.heap.size, 5, none⟩ = false := blk_frozen G.out.r 5
      have zr6 : wr.cell? ⟨w.heap.size, 6, none⟩ = some (.int .i64 0) := (blk_cell G.out.r 6).trans rfl
      have fr6 : wr.frozen? ⟨w.heap.size, 6, none⟩ = false := blk_frozen G.out.r 6
      have zr7 : wr.cell? ⟨w.heap.size, 7, none⟩ = some (.int .i64 0) := (blk_cell G.out.r 7).trans rfl
      have fr7 : wr.frozen? ⟨w.heap.size, 7, none⟩ = false := blk_frozen G.out.r 7
      have zr8 : wr.cell? ⟨w.heap.size, 8, none⟩ = some (.int .i64 0) := (blk_cell G.out.r 8).trans rfl
      have fr8 : wr.frozen? ⟨w.heap.size, 8, none⟩ = false := blk_frozen G.out.r 8
      have zr9 : wr.cell? ⟨w.heap.size, 9, none⟩ = some (.int .i64 0) := (blk_cell G.out.r 9).trans rfl
      have fr9 : wr.frozen? ⟨w.heap.size, 9, none⟩ = false := blk_frozen G.out.r 9
      have hgs : (getC s).2 = (getC s).2 := rfl
      clear hgs
      have hw1 : who.size ≤ 65536 := by have h := (inText_size s0 e0).2; rw [H1.out] at h; exact h
      have hw2 : nm.size ≤ 65536 := by have h := (inText_size s1 e1).2; rw [H2.out] at h; exact h
      have hw3 : ot.size ≤ 65536 := by have h := (inText_size s2 e2).2; rw [H3.out] at h; exact h
      by_cases he : e9 = 0
      · subst he
        have HCW := Aside0.mk (row_C HRW.out)
        obtain ⟨gd, hgd⟩ : ∃ gd, goodC k who nm ot tx wd a b c d = gd := ⟨_, rfl⟩
        have HGD := Aside0.mk hgd
        have hcf := fun x => blk_cell G.out.c x
        have zc0 : wr.cell? ⟨w2.heap.size, 0, none⟩ = some (.int .i64 k) := (hcf 0).trans rfl
        have zc1 : wr.cell? ⟨w2.heap.size, 1, none⟩ = some (.string who) := (hcf 1).trans rfl
        have zc2 : wr.cell? ⟨w2.heap.size, 2, none⟩ = some (.string nm) := (hcf 2).trans rfl
        have zc3 : wr.cell? ⟨w2.heap.size, 3, none⟩ = some (.string ot) := (hcf 3).trans rfl
        have zc4 : wr.cell? ⟨w2.heap.size, 4, none⟩ = some (.string tx) := (hcf 4).trans rfl
        have zc5 : wr.cell? ⟨w2.heap.size, 5, none⟩ = some (.slice A wd.length cap) := (hcf 5).trans rfl
        have zc6 : wr.cell? ⟨w2.heap.size, 6, none⟩ = some (.int .i64 a) := (hcf 6).trans rfl
        have zc7 : wr.cell? ⟨w2.heap.size, 7, none⟩ = some (.int .i64 b) := (hcf 7).trans rfl
        have zc8 : wr.cell? ⟨w2.heap.size, 8, none⟩ = some (.int .i64 c) := (hcf 8).trans rfl
        have zc9 : wr.cell? ⟨w2.heap.size, 9, none⟩ = some (.int .i64 d) := (hcf 9).trans rfl
        clear hcf
        cases gd
        · have HT : Aside0 (getC s = (zeroV, 2)) := ⟨by unfold getC goodV; rw [HQ.out.1, HQ.out.2.2, if_neg (by simp)]; exact if_pos hgd⟩
          clear hgd
          go_wp2_with (first
            | (go_at_call 56; refine (err_quiet gi s9 0 _ G.out.i).mono ?_; rintro e w' ⟨rfl, rfl⟩)
            | (go_at_call 15; (with_reducible refine (cGood_calls k who nm ot tx A cap wd a b c d _ (by omega) (by omega) (by omega) HCW.out.1 HCW.out.2).mono ?_); rintro e w8 ⟨rfl, hb8⟩; rw [HGD.out]; have G8 := Aside0.mk (G.out.quiet hb8); clear hb8 G; have G := G8; clear G8 zr0 fr0 zc0 zr1 fr1 zc1 zr2 fr2 zc2 zr3 fr3 zc3 zr4 fr4 zc4 zr5 fr5 zc5 zr6 fr6 zc6 zr7 fr7 zc7 zr8 fr8 zc8 zr9 fr9 zc9; have zr0 : w8.cell? ⟨w.heap.size, 0, none⟩ = some (.int .i64 0) := (blk_cell G.out.r 0).trans rfl; have fr0 : w8.frozen? ⟨w.heap.size, 0, none⟩ = false := blk_frozen G.out.r 0; have zr1 : w8.cell? ⟨w.heap.size, 1, none⟩ = some (.string ⟨#[]⟩) := (blk_cell G.out.r 1).trans rfl; have fr1 : w8.frozen? ⟨w.heap.size, 1, none⟩ = false := blk_frozen G.out.r 1; have zr2 : w8.cell? ⟨w.heap.size, 2, none⟩ = some (.string ⟨#[]⟩) := (blk_cell G.out.r 2).trans rfl; have fr2 : w8.frozen? ⟨w.heap.size, 2, none⟩ = false := blk_frozen G.out.r 2; have zr3 : w8.cell? ⟨w.heap.size, 3, none⟩ = some (.string ⟨#[]⟩) := (blk_cell G.out.r 3).trans rfl; have fr3 : w8.frozen? ⟨w.heap.size, 3, none⟩ = false := blk_frozen G.out.r 3; have zr4 : w8.cell? ⟨w.heap.size, 4, none⟩ = some (.string ⟨#[]⟩) := (blk_cell G.out.r 4).trans rfl; have fr4 : w8.frozen? ⟨w.heap.size, 4, none⟩ = false := blk_frozen G.out.r 4; have zr5 : w8.cell? ⟨w.heap.size, 5, none⟩ = some (.slice none 0 0) := (blk_cell G.out.r 5).trans rfl; have fr5 : w8.frozen? ⟨w.heap.size, 5, none⟩ = false := blk_frozen G.out.r 5; have zr6 : w8.cell? ⟨w.heap.size, 6, none⟩ = some (.int .i64 0) := (blk_cell G.out.r 6).trans rfl; have fr6 : w8.frozen? ⟨w.heap.size, 6, none⟩ = false := blk_frozen G.out.r 6; have zr7 : w8.cell? ⟨w.heap.size, 7, none⟩ = some (.int .i64 0) := (blk_cell G.out.r 7).trans rfl; have fr7 : w8.frozen? ⟨w.heap.size, 7, none⟩ = false := blk_frozen G.out.r 7; have zr8 : w8.cell? ⟨w.heap.size, 8, none⟩ = some (.int .i64 0) := (blk_cell G.out.r 8).trans rfl; have fr8 : w8.frozen? ⟨w.heap.size, 8, none⟩ = false := blk_frozen G.out.r 8; have zr9 : w8.cell? ⟨w.heap.size, 9, none⟩ = some (.int .i64 0) := (blk_cell G.out.r 9).trans rfl; have fr9 : w8.frozen? ⟨w.heap.size, 9, none⟩ = false := blk_frozen G.out.r 9))
          (try simp only [Exit.inBlock, Exit.then])
          refine bodyPost_ret (results_ct rfl _ _ w.heap.size 28 #[.int .i64 0, .string ⟨#[]⟩, .string ⟨#[]⟩, .string ⟨#[]⟩, .string ⟨#[]⟩, .slice none 0 0, .int .i64 0, .int .i64 0, .int .i64 0, .int .i64 0] (0, 0) _ rfl (put10 G.out.r _ _ _ _ _ _ _ _ _ _) Try.underlying28 rfl (by kernel_rfl)) rfl ?_
          exact told_zero HT.out (put10_below G.out.b (Nat.le_refl _) _ _ _ _ _ _ _ _ _ _)
        · by_cases hz9 : s9.size = 0
          · have HT : Aside0 (getC s = (⟨k, who, nm, ot, tx, wd, a, b, c, d⟩, 0)) := ⟨by unfold getC goodV; rw [HQ.out.1, HQ.out.2.1, HQ.out.2.2, if_neg (by simp)]; simp only [hgd]; simp [hz9]⟩
            have HEN : Aside0 (inEnd s9 0 = 0) := ⟨by unfold inEnd; rw [if_pos rfl, if_pos hz9]⟩
            clear hgd hz9
            go_wp2_with (first
              | (go_at_call 56; refine (err_quiet gi s9 0 _ G.out.i).mono ?_; rintro e w' ⟨rfl, rfl⟩)
              | (go_at_call 57; refine (end_quiet gi s9 0 _ G.out.i).mono ?_; rintro e w' ⟨rfl, rfl⟩; rw [HEN.out])
              | (go_at_call 15; (with_reducible refine (cGood_calls k who nm ot tx A cap wd a b c d _ (by omega) (by omega) (by omega) HCW.out.1 HCW.out.2).mono ?_); rintro e w8 ⟨rfl, hb8⟩; rw [HGD.out]; have G8 := Aside0.mk (G.out.quiet hb8); have HR8 := Aside0.mk (Kd.R_below HRW.out hb8); clear hb8 G; have G := G8; clear G8 zr0 fr0 zc0 zr1 fr1 zc1 zr2 fr2 zc2 zr3 fr3 zc3 zr4 fr4 zc4 zr5 fr5 zc5 zr6 fr6 zc6 zr7 fr7 zc7 zr8 fr8 zc8 zr9 fr9 zc9; have zr0 : w8.cell? ⟨w.heap.size, 0, none⟩ = some (.int .i64 0) := (blk_cell G.out.r 0).trans rfl; have fr0 : w8.frozen? ⟨w.heap.size, 0, none⟩ = false := blk_frozen G.out.r 0; have zr1 : w8.cell? ⟨w.heap.size, 1, none⟩ = some (.string ⟨#[]⟩) := (blk_cell G.out.r 1).trans rfl; have fr1 : w8.frozen? ⟨w.heap.size, 1, none⟩ = false := blk_frozen G.out.r 1; have zr2 : w8.cell? ⟨w.heap.size, 2, none⟩ = some (.string ⟨#[]⟩) := (blk_cell G.out.r 2).trans rfl; have fr2 : w8.frozen? ⟨w.heap.size, 2, none⟩ = false := blk_frozen G.out.r 2; have zr3 : w8.cell? ⟨w.heap.size, 3, none⟩ = some (.string ⟨#[]⟩) := (blk_cell G.out.r 3).trans rfl; have fr3 : w8.frozen? ⟨w.heap.size, 3, none⟩ = false := blk_frozen G.out.r 3; have zr4 : w8.cell? ⟨w.heap.size, 4, none⟩ = some (.string ⟨#[]⟩) := (blk_cell G.out.r 4).trans rfl; have fr4 : w8.frozen? ⟨w.heap.size, 4, none⟩ = false := blk_frozen G.out.r 4; have zr5 : w8.cell? ⟨w.heap.size, 5, none⟩ = some (.slice none 0 0) := (blk_cell G.out.r 5).trans rfl; have fr5 : w8.frozen? ⟨w.heap.size, 5, none⟩ = false := blk_frozen G.out.r 5; have zr6 : w8.cell? ⟨w.heap.size, 6, none⟩ = some (.int .i64 0) := (blk_cell G.out.r 6).trans rfl; have fr6 : w8.frozen? ⟨w.heap.size, 6, none⟩ = false := blk_frozen G.out.r 6; have zr7 : w8.cell? ⟨w.heap.size, 7, none⟩ = some (.int .i64 0) := (blk_cell G.out.r 7).trans rfl; have fr7 : w8.frozen? ⟨w.heap.size, 7, none⟩ = false := blk_frozen G.out.r 7; have zr8 : w8.cell? ⟨w.heap.size, 8, none⟩ = some (.int .i64 0) := (blk_cell G.out.r 8).trans rfl; have fr8 : w8.frozen? ⟨w.heap.size, 8, none⟩ = false := blk_frozen G.out.r 8; have zr9 : w8.cell? ⟨w.heap.size, 9, none⟩ = some (.int .i64 0) := (blk_cell G.out.r 9).trans rfl; have fr9 : w8.frozen? ⟨w.heap.size, 9, none⟩ = false := blk_frozen G.out.r 9; have zc0 : w8.cell? ⟨w2.heap.size, 0, none⟩ = some (.int .i64 k) := (blk_cell G.out.c 0).trans rfl; have zc1 : w8.cell? ⟨w2.heap.size, 1, none⟩ = some (.string who) := (blk_cell G.out.c 1).trans rfl; have zc2 : w8.cell? ⟨w2.heap.size, 2, none⟩ = some (.string nm) := (blk_cell G.out.c 2).trans rfl; have zc3 : w8.cell? ⟨w2.heap.size, 3, none⟩ = some (.string ot) := (blk_cell G.out.c 3).trans rfl; have zc4 : w8.cell? ⟨w2.heap.size, 4, none⟩ = some (.string tx) := (blk_cell G.out.c 4).trans rfl; have zc5 : w8.cell? ⟨w2.heap.size, 5, none⟩ = some (.slice A wd.length cap) := (blk_cell G.out.c 5).trans rfl; have zc6 : w8.cell? ⟨w2.heap.size, 6, none⟩ = some (.int .i64 a) := (blk_cell G.out.c 6).trans rfl; have zc7 : w8.cell? ⟨w2.heap.size, 7, none⟩ = some (.int .i64 b) := (blk_cell G.out.c 7).trans rfl; have zc8 : w8.cell? ⟨w2.heap.size, 8, none⟩ = some (.int .i64 c) := (blk_cell G.out.c 8).trans rfl; have zc9 : w8.cell? ⟨w2.heap.size, 9, none⟩ = some (.int .i64 d) := (blk_cell G.out.c 9).trans rfl))
            (try simp only [Exit.inBlock, Exit.then])
            refine bodyPost_ret (results_ct rfl _ _ w.heap.size 28 #[.int .i64 k, .string who, .string nm, .string ot, .string tx, .slice A wd.length cap, .int .i64 a, .int .i64 b, .int .i64 c, .int .i64 d] (0, 0) _ rfl (put10 G.out.r _ _ _ _ _ _ _ _ _ _) Try.underlying28 rfl (by kernel_rfl)) rfl ?_
            have HF := row_C (put10_row HR8.out G.out.r (by decide) (.int .i64 k) (.string who) (.string nm) (.string ot) (.string tx) (.slice A wd.length cap) (.int .i64 a) (.int .i64 b) (.int .i64 c) (.int .i64 d))
            exact told_ok HT.out HF.1 HF.2 (put10_below G.out.b (Nat.le_refl _) _ _ _ _ _ _ _ _ _ _)
          · have HT : Aside0 (getC s = (zeroV, 4)) := ⟨by unfold getC goodV; rw [HQ.out.1, HQ.out.2.1, HQ.out.2.2, if_neg (by simp)]; simp only [hgd]; simp [hz9]⟩
            have HEN : Aside0 (inEnd s9 0 = 4) := ⟨by unfold inEnd; rw [if_pos rfl, if_neg hz9]⟩
            clear hgd hz9
            go_wp2_with (first
              | (go_at_call 56; refine (err_quiet gi s9 0 _ G.out.i).mono ?_; rintro e w' ⟨rfl, rfl⟩)
              | (go_at_call 57; refine (end_quiet gi s9 0 _ G.out.i).mono ?_; rintro e w' ⟨rfl, rfl⟩; rw [HEN.out])
              | (go_at_call 15; (with_reducible refine (cGood_calls k who nm ot tx A cap wd a b c d _ (by omega) (by omega) (by omega) HCW.out.1 HCW.out.2).mono ?_); rintro e w8 ⟨rfl, hb8⟩; rw [HGD.out]; have G8 := Aside0.mk (G.out.quiet hb8); clear hb8 G; have G := G8; clear G8 zr0 fr0 zc0 zr1 fr1 zc1 zr2 fr2 zc2 zr3 fr3 zc3 zr4 fr4 zc4 zr5 fr5 zc5 zr6 fr6 zc6 zr7 fr7 zc7 zr8 fr8 zc8 zr9 fr9 zc9; have zr0 : w8.cell? ⟨w.heap.size, 0, none⟩ = some (.int .i64 0) := (blk_cell G.out.r 0).trans rfl; have fr0 : w8.frozen? ⟨w.heap.size, 0, none⟩ = false := blk_frozen G.out.r 0; have zr1 : w8.cell? ⟨w.heap.size, 1, none⟩ = some (.string ⟨#[]⟩) := (blk_cell G.out.r 1).trans rfl; have fr1 : w8.frozen? ⟨w.heap.size, 1, none⟩ = false := blk_frozen G.out.r 1; have zr2 : w8.cell? ⟨w.heap.size, 2, none⟩ = some (.string ⟨#[]⟩) := (blk_cell G.out.r 2).trans rfl; have fr2 : w8.frozen? ⟨w.heap.size, 2, none⟩ = false := blk_frozen G.out.r 2; have zr3 : w8.cell? ⟨w.heap.size, 3, none⟩ = some (.string ⟨#[]⟩) := (blk_cell G.out.r 3).trans rfl; have fr3 : w8.frozen? ⟨w.heap.size, 3, none⟩ = false := blk_frozen G.out.r 3; have zr4 : w8.cell? ⟨w.heap.size, 4, none⟩ = some (.string ⟨#[]⟩) := (blk_cell G.out.r 4).trans rfl; have fr4 : w8.frozen? ⟨w.heap.size, 4, none⟩ = false := blk_frozen G.out.r 4; have zr5 : w8.cell? ⟨w.heap.size, 5, none⟩ = some (.slice none 0 0) := (blk_cell G.out.r 5).trans rfl; have fr5 : w8.frozen? ⟨w.heap.size, 5, none⟩ = false := blk_frozen G.out.r 5; have zr6 : w8.cell? ⟨w.heap.size, 6, none⟩ = some (.int .i64 0) := (blk_cell G.out.r 6).trans rfl; have fr6 : w8.frozen? ⟨w.heap.size, 6, none⟩ = false := blk_frozen G.out.r 6; have zr7 : w8.cell? ⟨w.heap.size, 7, none⟩ = some (.int .i64 0) := (blk_cell G.out.r 7).trans rfl; have fr7 : w8.frozen? ⟨w.heap.size, 7, none⟩ = false := blk_frozen G.out.r 7; have zr8 : w8.cell? ⟨w.heap.size, 8, none⟩ = some (.int .i64 0) := (blk_cell G.out.r 8).trans rfl; have fr8 : w8.frozen? ⟨w.heap.size, 8, none⟩ = false := blk_frozen G.out.r 8; have zr9 : w8.cell? ⟨w.heap.size, 9, none⟩ = some (.int .i64 0) := (blk_cell G.out.r 9).trans rfl; have fr9 : w8.frozen? ⟨w.heap.size, 9, none⟩ = false := blk_frozen G.out.r 9))
            (try simp only [Exit.inBlock, Exit.then])
            refine bodyPost_ret (results_ct rfl _ _ w.heap.size 28 #[.int .i64 0, .string ⟨#[]⟩, .string ⟨#[]⟩, .string ⟨#[]⟩, .string ⟨#[]⟩, .slice none 0 0, .int .i64 0, .int .i64 0, .int .i64 0, .int .i64 0] (0, 0) _ rfl (put10 G.out.r _ _ _ _ _ _ _ _ _ _) Try.underlying28 rfl (by kernel_rfl)) rfl ?_
            exact told_zero HT.out (put10_below G.out.b (Nat.le_refl _) _ _ _ _ _ _ _ _ _ _)
      · have he2 : (e9 != 0) = true := by rw [bne_iff_ne]; exact he
        have he3 : (e9 == 0) = false := by rw [beq_eq_false_iff_ne]; exact he
        have HT : Aside0 (getC s = (zeroV, e9)) := ⟨by unfold getC; rw [HQ.out.2.2]; exact if_pos he⟩
        go_wp2_with (go_at_call 56; refine (err_quiet gi s9 e9 _ G.out.i).mono ?_; rintro e w' ⟨rfl, rfl⟩)
        (try simp only [Exit.inBlock, Exit.then])
        refine bodyPost_ret (results_ct rfl _ _ w.heap.size 28 #[.int .i64 0, .string ⟨#[]⟩, .string ⟨#[]⟩, .string ⟨#[]⟩, .string ⟨#[]⟩, .slice none 0 0, .int .i64 0, .int .i64 0, .int .i64 0, .int .i64 0] (0, 0) _ rfl (put10 G.out.r _ _ _ _ _ _ _ _ _ _) Try.underlying28 rfl (by kernel_rfl)) rfl ?_
        exact told_zero HT.out (put10_below G.out.b (Nat.le_refl _) _ _ _ _ _ _ _ _ _ _)
end Go.Proofs.Ytnajmemcdipknaa.PK
namespace Go.Proofs.Ytnajmemcdipknaa.PK
open Go.RowKit Go.Proofs.YtnajmemcdipknaaW.PrintWords Go.Proofs.YtnajmemcdipknaaW.PrintLast Go.Proofs.YtnajmemcdipknaaW.PrintMore
open Go.ChangeShapes Go.WideShapes
set_option linter.unusedVariables false
set_option linter.unusedSimpArgs false
set_option maxRecDepth 100000
theorem rng {s s' : ByteArray} {e e' v : Int} (h : inInt s e = (v, s', e')) : -9223372036854775808 ≤ v ∧ v ≤ 9223372036854775807 := by
  have := inInt_range s e
  rw [h] at this
  exact ⟨by have := this.1; omega, by have := this.2; omega⟩
theorem GetSt.isRef {w W : World} {gr gi gc : Nat} {TC : TypeId} {s : ByteArray} {e : Int} {cs zs : Array Value} (h : GetSt w W gr gi gc TC 116 s e cs zs) : IsS116 w W gi s e := ⟨h.i, h.li⟩
set_option maxHeartbeats 6400000 in
theorem rGet_calls (s : ByteArray) (hs : s.size ≤ 140737488355328) (w : World) : Calls Try.prog 20 #[.string s] w (Told s w) := by
  have hu := Try.underlying29
  obtain ⟨k, s0, e0, hq0⟩ : ∃ v s' e', rk s = (v, s', e') := ⟨_, _, _, rfl⟩
  have H0 : Aside0 (inInt s 0 = (k, s0, e0)) := ⟨by have h := hq0; unfold rk at h; exact h⟩
  obtain ⟨who, s1, e1, hq1⟩ : ∃ v s' e', r1 s = (v, s', e') := ⟨_, _, _, rfl⟩
  have H1 : Aside0 (inText s0 e0 = (who, s1, e1)) := ⟨by have h := hq1; unfold r1 at h; rw [hq0] at h; exact h⟩
  obtain ⟨nm, s2, e2, hq2⟩ : ∃ v s' e', r2 s = (v, s', e') := ⟨_, _, _, rfl⟩
  have H2 : Aside0 (inText s1 e1 = (nm, s2, e2)) := ⟨by have h := hq2; unfold r2 at h; rw [hq1] at h; exact h⟩
  obtain ⟨ot, s3, e3, hq3⟩ : ∃ v s' e', r3 s = (v, s', e') := ⟨_, _, _, rfl⟩
  have H3 : Aside0 (inText s2 e2 = (ot, s3, e3)) := ⟨by have h := hq3; unfold r3 at h; rw [hq2] at h; exact h⟩
  obtain ⟨tx, s4, e4, hq4⟩ : ∃ v s' e', r4 s = (v, s', e') := ⟨_, _, _, rfl⟩
  have H4 : Aside0 (inText s3 e3 = (tx, s4, e4)) := ⟨by have h := hq4; unfold r4 at h; rw [hq3] at h; exact h⟩
  obtain ⟨wd, s5, e5, hq5⟩ : ∃ v s' e', r5 s = (v, s', e') := ⟨_, _, _, rfl⟩
  have H5 : Aside0 (inTexts s4 e4 64 = (wd, s5, e5)) := ⟨by have h := hq5; unfold r5 at h; rw [hq4] at h; exact h⟩
  obtain ⟨a, s6, e6, hq6⟩ : ∃ v s' e', r6 s = (v, s', e') := ⟨_, _, _, rfl⟩
  have H6 : Aside0 (inInt s5 e5 = (a, s6, e6)) := ⟨by have h := hq6; unfold r6 at h; rw [hq5] at h; exact h⟩
  obtain ⟨b, s7, e7, hq7⟩ : ∃ v s' e', r7 s = (v, s', e') := ⟨_, _, _, rfl⟩
  have H7 : Aside0 (inInt s6 e6 = (b, s7, e7)) := ⟨by have h := hq7; unfold r7 at h; rw [hq6] at h; exact h⟩
  obtain ⟨c, s8, e8, hq8⟩ : ∃ v s' e', r8 s = (v, s', e') := ⟨_, _, _, rfl⟩
  have H8 : Aside0 (inInt s7 e7 = (c, s8, e8)) := ⟨by have h := hq8; unfold r8 at h; rw [hq7] at h; exact h⟩
  obtain ⟨d, s9, e9, hq9⟩ : ∃ v s' e', r9 s = (v, s', e') := ⟨_, _, _, rfl⟩
  have H9 : Aside0 (inInt s8 e8 = (d, s9, e9)) := ⟨by have h := hq9; unfold r9 at h; rw [hq8] at h; exact h⟩
  have HQ : Aside0 (readC s = ⟨k, who, nm, ot, tx, wd, a, b, c, d⟩ ∧ (r9 s).2.1 = s9 ∧ (r9 s).2.2 = e9) := ⟨by unfold readC; rw [hq0, hq1, hq2, hq3, hq4, hq5, hq6, hq7, hq8, hq9], by rw [hq9], by rw [hq9]⟩
  have z0 : s0.size ≤ 140737488355328 := by have h := inInt_size s 0; rw [H0.out] at h; exact Nat.le_trans h hs
  have z1 : s1.size ≤ 140737488355328 := by have h := inText_size s0 e0; rw [H1.out] at h; exact Nat.le_trans h.1 z0
  have z2 : s2.size ≤ 140737488355328 := by have h := inText_size s1 e1; rw [H2.out] at h; exact Nat.le_trans h.1 z1
  have z3 : s3.size ≤ 140737488355328 := by have h := inText_size s2 e2; rw [H3.out] at h; exact Nat.le_trans h.1 z2
  have z4 : s4.size ≤ 140737488355328 := by have h := inText_size s3 e3; rw [H4.out] at h; exact Nat.le_trans h.1 z3
  have z5 : s5.size ≤ 140737488355328 := by have h := inTexts_size s4 e4 64; rw [H5.out] at h; exact Nat.le_trans h z4
  have z6 : s6.size ≤ 140737488355328 := by have h := inInt_size s5 e5; rw [H6.out] at h; exact Nat.le_trans h z5
  have z7 : s7.size ≤ 140737488355328 := by have h := inInt_size s6 e6; rw [H7.out] at h; exact Nat.le_trans h z6
  have z8 : s8.size ≤ 140737488355328 := by have h := inInt_size s7 e7; rw [H8.out] at h; exact Nat.le_trans h z7
  have SZ : Aside0 (s.size ≤ 140737488355328 ∧ s0.size ≤ 140737488355328 ∧ s1.size ≤ 140737488355328 ∧ s2.size ≤ 140737488355328 ∧ s3.size ≤ 140737488355328 ∧ s4.size ≤ 140737488355328 ∧ s5.size ≤ 140737488355328 ∧ s6.size ≤ 140737488355328 ∧ s7.size ≤ 140737488355328 ∧ s8.size ≤ 140737488355328) := ⟨hs, z0, z1, z2, z3, z4, z5, z6, z7, z8⟩
  clear z0 z1 z2 z3 z4 z5 z6 z7 z8
  clear hq0 hq1 hq2 hq3 hq4 hq5 hq6 hq7 hq8 hq9
  go_enter Try.func20, Try.ntmps20
  go_wp2_with fail
  have hn := heap_alloc_new w (.cells #[.int .i64 0, .string ⟨#[]⟩, .string ⟨#[]⟩, .string ⟨#[]⟩, .string ⟨#[]⟩, .slice none 0 0, .int .i64 0, .int .i64 0, .int .i64 0, .int .i64 0] 29)
  have hb0 := below_alloc (Below.refl w.heap.size w) (.cells #[.int .i64 0, .string ⟨#[]⟩, .string ⟨#[]⟩, .string ⟨#[]⟩, .string ⟨#[]⟩, .slice none 0 0, .int .i64 0, .int .i64 0, .int .i64 0, .int .i64 0] 29)
  have hsz1 : (w.alloc (.cells #[.int .i64 0, .string ⟨#[]⟩, .string ⟨#[]⟩, .string ⟨#[]⟩, .string ⟨#[]⟩, .slice none 0 0, .int .i64 0, .int .i64 0, .int .i64 0, .int .i64 0] 29)).heap.size = w.heap.size + 1 := by simp
  have hI0 : IsS116 w ((w.alloc (.cells #[.int .i64 0, .string ⟨#[]⟩, .string ⟨#[]⟩, .string ⟨#[]⟩, .string ⟨#[]⟩, .slice none 0 0, .int .i64 0, .int .i64 0, .int .i64 0, .int .i64 0] 29)).alloc (.cells #[.string s, .int .i64 0] 116)) (w.heap.size + 1) s 0 := by
    have h := IsS116.new w (w.alloc (.cells #[.int .i64 0, .string ⟨#[]⟩, .string ⟨#[]⟩, .string ⟨#[]⟩, .string ⟨#[]⟩, .slice none 0 0, .int .i64 0, .int .i64 0, .int .i64 0, .int .i64 0] 29)) s 0 hb0
    rwa [hsz1] at h
  have hb1 := below_alloc hb0 (.cells #[.string s, .int .i64 0] 116)
  have hr1 := ((below_alloc (Below.refl (w.alloc (.cells #[.int .i64 0, .string ⟨#[]⟩, .string ⟨#[]⟩, .string ⟨#[]⟩, .string ⟨#[]⟩, .slice none 0 0, .int .i64 0, .int .i64 0, .int .i64 0, .int .i64 0] 29)).heap.size (w.alloc (.cells #[.int .i64 0, .string ⟨#[]⟩, .string ⟨#[]⟩, .string ⟨#[]⟩, .string ⟨#[]⟩, .slice none 0 0, .int .i64 0, .int .i64 0, .int .i64 0, .int .i64 0] 29))) (.cells #[.string s, .int .i64 0] 116)).block w.heap.size (by omega)).trans hn
  (with_reducible refine (primerref01_Int.calls 25 (w.heap.size + 1) s 0 k s0 e0 w _ hI0 hb1 (by rw [ref_Int_eq s 0 SZ.out.1 25 (by omega), H0.out])).mono ?_)
  rintro e wv0 ⟨rfl, hi, hb, hk⟩
  have hr2 := (hk.2 w.heap.size (blk_lt hr1) (by omega) (by simp)).trans hr1
  have hlt := blk_lt hi.1
  have hlr := blk_lt hr2
  have hn3 := heap_alloc_new wv0 (.cells #[.int .i64 k, .string ⟨#[]⟩, .string ⟨#[]⟩, .string ⟨#[]⟩, .string ⟨#[]⟩, .slice none 0 0, .int .i64 0, .int .i64 0, .int .i64 0, .int .i64 0] 29)
  have hb3 := below_alloc (Below.refl wv0.heap.size wv0) (.cells #[.int .i64 k, .string ⟨#[]⟩, .string ⟨#[]⟩, .string ⟨#[]⟩, .string ⟨#[]⟩, .slice none 0 0, .int .i64 0, .int .i64 0, .int .i64 0, .int .i64 0] 29)
  have G0 : Aside0 (GetSt w (wv0.alloc (.cells #[.int .i64 k, .string ⟨#[]⟩, .string ⟨#[]⟩, .string ⟨#[]⟩, .string ⟨#[]⟩, .slice none 0 0, .int .i64 0, .int .i64 0, .int .i64 0, .int .i64 0] 29)) w.heap.size (w.heap.size + 1) wv0.heap.size 29 116 s0 e0 #[.int .i64 k, .string ⟨#[]⟩, .string ⟨#[]⟩, .string ⟨#[]⟩, .string ⟨#[]⟩, .slice none 0 0, .int .i64 0, .int .i64 0, .int .i64 0, .int .i64 0] #[.int .i64 0, .string ⟨#[]⟩, .string ⟨#[]⟩, .string ⟨#[]⟩, .string ⟨#[]⟩, .slice none 0 0, .int .i64 0, .int .i64 0, .int .i64 0, .int .i64 0]) :=
    ⟨⟨(hb3.block _ hlt).trans hi.1, hn3, (hb3.block _ hlr).trans hr2, below_then hb hb.size hb3, Nat.le_refl _, by omega, hb.size, by omega, by omega, by omega⟩⟩
  clear hn hb0 hsz1 hI0 hb1 hr1 hi hb hk hr2 hlt hlr hn3 hb3
  go_wp2_with fail
  have G := G0
  clear G0
  (with_reducible refine (primerref01_Text.calls 31 (w.heap.size + 1) s0 e0 who s1 e1 w _ G.out.isRef G.out.b (by rw [ref_Text_eq s0 e0 SZ.out.2.1 31 (by omega), H1.out])).mono ?_)
  rintro e wv1 ⟨rfl, hi, hb, hk⟩
  have G' := Aside0.mk (G.out.call hi.1 hb hk)
  have hz : wv1.cell? ⟨wv0.heap.size, 1, none⟩ = some (.string ⟨#[]⟩) := (blk_cell G'.out.c 1).trans rfl
  have hf : wv1.frozen? ⟨wv0.heap.size, 1, none⟩ = false := blk_frozen G'.out.c 1
  have G'' : Aside0 (GetSt w (wv1.setCell ⟨wv0.heap.size, 1, none⟩ (.string who)) w.heap.size (w.heap.size + 1) wv0.heap.size 29 116 s1 e1 #[.int .i64 k, .string who, .string ⟨#[]⟩, .string ⟨#[]⟩, .string ⟨#[]⟩, .slice none 0 0, .int .i64 0, .int .i64 0, .int .i64 0, .int .i64 0] #[.int .i64 0, .string ⟨#[]⟩, .string ⟨#[]⟩, .string ⟨#[]⟩, .string ⟨#[]⟩, .slice none 0 0, .int .i64 0, .int .i64 0, .int .i64 0, .int .i64 0]) := ⟨G'.out.store 1 (.string who)⟩
  clear hi hb hk G
  have G := G''
  clear G'' G'
  go_wp2_with fail
  clear hz hf
  (with_reducible refine (primerref01_Text.calls 31 (w.heap.size + 1) s1 e1 nm s2 e2 w _ G.out.isRef G.out.b (by rw [ref_Text_eq s1 e1 SZ.out.2.2.1 31 (by omega), H2.out])).mono ?_)
  rintro e wv2 ⟨rfl, hi, hb, hk⟩
  have G' := Aside0.mk (G.out.call hi.1 hb hk)
  have hz : wv2.cell? ⟨wv0.heap.size, 2, none⟩ = some (.string ⟨#[]⟩) := (blk_cell G'.out.c 2).trans rfl
  have hf : wv2.frozen? ⟨wv0.heap.size, 2, none⟩ = false := blk_frozen G'.out.c 2
  have G'' : Aside0 (GetSt w (wv2.setCell ⟨wv0.heap.size, 2, none⟩ (.string nm)) w.heap.size (w.heap.size + 1) wv0.heap.size 29 116 s2 e2 #[.int .i64 k, .string who, .string nm, .string ⟨#[]⟩, .string ⟨#[]⟩, .slice none 0 0, .int .i64 0, .int .i64 0, .int .i64 0, .int .i64 0] #[.int .i64 0, .string ⟨#[]⟩, .string ⟨#[]⟩, .string ⟨#[]⟩, .string ⟨#[]⟩, .slice none 0 0, .int .i64 0, .int .i64 0, .int .i64 0, .int .i64 0]) := ⟨G'.out.store 2 (.string nm)⟩
  clear hi hb hk G
  have G := G''
  clear G'' G'
  go_wp2_with fail
  clear hz hf
  (with_reducible refine (primerref01_Text.calls 31 (w.heap.size + 1) s2 e2 ot s3 e3 w _ G.out.isRef G.out.b (by rw [ref_Text_eq s2 e2 SZ.out.2.2.2.1 31 (by omega), H3.out])).mono ?_)
  rintro e wv3 ⟨rfl, hi, hb, hk⟩
  have G' := Aside0.mk (G.out.call hi.1 hb hk)
  have hz : wv3.cell? ⟨wv0.heap.size, 3, none⟩ = some (.string ⟨#[]⟩) := (blk_cell G'.out.c 3).trans rfl
  have hf : wv3.frozen? ⟨wv0.heap.size, 3, none⟩ = false := blk_frozen G'.out.c 3
  have G'' : Aside0 (GetSt w (wv3.setCell ⟨wv0.heap.size, 3, none⟩ (.string ot)) w.heap.size (w.heap.size + 1) wv0.heap.size 29 116 s3 e3 #[.int .i64 k, .string who, .string nm, .string ot, .string ⟨#[]⟩, .slice none 0 0, .int .i64 0, .int .i64 0, .int .i64 0, .int .i64 0] #[.int .i64 0, .string ⟨#[]⟩, .string ⟨#[]⟩, .string ⟨#[]⟩, .string ⟨#[]⟩, .slice none 0 0, .int .i64 0, .int .i64 0, .int .i64 0, .int .i64 0]) := ⟨G'.out.store 3 (.string ot)⟩
  clear hi hb hk G
  have G := G''
  clear G'' G'
  go_wp2_with fail
  clear hz hf
  (with_reducible refine (primerref01_Text.calls 31 (w.heap.size + 1) s3 e3 tx s4 e4 w _ G.out.isRef G.out.b (by rw [ref_Text_eq s3 e3 SZ.out.2.2.2.2.1 31 (by omega), H4.out])).mono ?_)
  rintro e wv4 ⟨rfl, hi, hb, hk⟩
  have G' := Aside0.mk (G.out.call hi.1 hb hk)
  have hz : wv4.cell? ⟨wv0.heap.size, 4, none⟩ = some (.string ⟨#[]⟩) := (blk_cell G'.out.c 4).trans rfl
  have hf : wv4.frozen? ⟨wv0.heap.size, 4, none⟩ = false := blk_frozen G'.out.c 4
  have G'' : Aside0 (GetSt w (wv4.setCell ⟨wv0.heap.size, 4, none⟩ (.string tx)) w.heap.size (w.heap.size + 1) wv0.heap.size 29 116 s4 e4 #[.int .i64 k, .string who, .string nm, .string ot, .string tx, .slice none 0 0, .int .i64 0, .int .i64 0, .int .i64 0, .int .i64 0] #[.int .i64 0, .string ⟨#[]⟩, .string ⟨#[]⟩, .string ⟨#[]⟩, .string ⟨#[]⟩, .slice none 0 0, .int .i64 0, .int .i64 0, .int .i64 0, .int .i64 0]) := ⟨G'.out.store 4 (.string tx)⟩
  clear hi hb hk G
  have G := G''
  clear G'' G'
  go_wp2_with fail
  clear hz hf
  (with_reducible refine (primerref01_Texts.calls 65575 (w.heap.size + 1) s4 e4 64 wd s5 e5 w _ G.out.isRef G.out.b (by rw [ref_Texts_eq s4 e4 64 SZ.out.2.2.2.2.2.1 65575 (by omega), H5.out])).mono ?_)
  rintro e wv5 ⟨v0, rfl, hR, hi, hb, hk⟩
  obtain ⟨A, cap, ha, hcap, _⟩ := Kd.R_reads hR
  subst ha
  have G' := Aside0.mk (G.out.call hi.1 hb hk)
  have hz : wv5.cell? ⟨wv0.heap.size, 5, none⟩ = some (.slice none 0 0) := (blk_cell G'.out.c 5).trans rfl
  have hf : wv5.frozen? ⟨wv0.heap.size, 5, none⟩ = false := blk_frozen G'.out.c 5
  have G'' : Aside0 (GetSt w (wv5.setCell ⟨wv0.heap.size, 5, none⟩ (.slice A wd.length cap)) w.heap.size (w.heap.size + 1) wv0.heap.size 29 116 s5 e5 #[.int .i64 k, .string who, .string nm, .string ot, .string tx, .slice A wd.length cap, .int .i64 0, .int .i64 0, .int .i64 0, .int .i64 0] #[.int .i64 0, .string ⟨#[]⟩, .string ⟨#[]⟩, .string ⟨#[]⟩, .string ⟨#[]⟩, .slice none 0 0, .int .i64 0, .int .i64 0, .int .i64 0, .int .i64 0]) := ⟨G'.out.store 5 (.slice A wd.length cap)⟩
  have R'' := Aside0.mk (row_store hR G'.out.c (by decide) 5 (.slice A wd.length cap))
  obtain ⟨bs, hbs⟩ : ∃ bs, bs = (wv5.heap.size) := ⟨_, rfl⟩
  clear hi hb hk G hR hbs
  have G := G''
  have HR6 := R''
  clear G'' G' R''
  go_wp2_with fail
  clear hz hf
  go_loopw [6] (fun i wr => ∃ j : Nat, j ≤ 4 ∧ i = .int .i64 j ∧ Aside0 (GetSt w wr w.heap.size (w.heap.size + 1) wv0.heap.size 29 116 ([s5, s6, s7, s8, s9].getD j s9) ([e5, e6, e7, e8, e9].getD j e9) #[.int .i64 k, .string who, .string nm, .string ot, .string tx, .slice A wd.length cap, .int .i64 (if 0 < j then a else 0), .int .i64 (if 1 < j then b else 0), .int .i64 (if 2 < j then c else 0), .int .i64 (if 3 < j then d else 0)] #[.int .i64 0, .string ⟨#[]⟩, .string ⟨#[]⟩, .string ⟨#[]⟩, .string ⟨#[]⟩, .slice none 0 0, .int .i64 0, .int .i64 0, .int .i64 0, .int .i64 0]) ∧ Aside0 (Kd.R Kd.string 9 wr (wv4.setCell ⟨wv0.heap.size, 4, none⟩ (.string tx)).heap.size (fun _ => True) (.slice A wd.length cap) wd)) (fun i _ => 4 - (intOf i).toNat)
  case atStart => exact ⟨0, Nat.zero_le _, rfl, ⟨G.out⟩, HR6⟩
  case round =>
    obtain ⟨j, hj, rfl, HG, HRW⟩ := hrel
    clear G HR6
    rcases (show j = 0 ∨ j = 1 ∨ j = 2 ∨ j = 3 ∨ j = 4 from by omega) with rfl | rfl | rfl | rfl | rfl
    · have G : Aside0 (GetSt w wr w.heap.size (w.heap.size + 1) wv0.heap.size 29 116 s5 e5 #[.int .i64 k, .string who, .string nm, .string ot, .string tx, .slice A wd.length cap, .int .i64 0, .int .i64 0, .int .i64 0, .int .i64 0] #[.int .i64 0, .string ⟨#[]⟩, .string ⟨#[]⟩, .string ⟨#[]⟩, .string ⟨#[]⟩, .slice none 0 0, .int .i64 0, .int .i64 0, .int .i64 0, .int .i64 0]) := ⟨HG.out⟩
      clear HG
      go_wp2_with fail
      (with_reducible refine (primerref01_Int.calls 25 (w.heap.size + 1) s5 e5 a s6 e6 w _ G.out.isRef G.out.b (by rw [ref_Int_eq s5 e5 SZ.out.2.2.2.2.2.2.1 25 (by omega), H6.out])).mono ?_)
      rintro e wv ⟨rfl, hi, hb, hk⟩
      have G' := Aside0.mk (G.out.call hi.1 hb hk)
      have R' := Aside0.mk (row_call HRW.out G.out.i (by decide) hk)
      have hz : wv.cell? ⟨wv0.heap.size, 6, none⟩ = some (.int .i64 0) := (blk_cell G'.out.c 6).trans rfl
      have hf : wv.frozen? ⟨wv0.heap.size, 6, none⟩ = false := blk_frozen G'.out.c 6
      clear hi hb hk G HRW
      go_wp2_with fail
      go_roundw
      case rel => exact ⟨1, by omega, rfl, ⟨G'.out.store 6 (.int .i64 a)⟩, ⟨row_store R'.out G'.out.c (by decide) 6 (.int .i64 a)⟩⟩
      case measure => simp [intOf]
    · have G : Aside0 (GetSt w wr w.heap.size (w.heap.size + 1) wv0.heap.size 29 116 s6 e6 #[.int .i64 k, .string who, .string nm, .string ot, .string tx, .slice A wd.length cap, .int .i64 a, .int .i64 0, .int .i64 0, .int .i64 0] #[.int .i64 0, .string ⟨#[]⟩, .string ⟨#[]⟩, .string ⟨#[]⟩, .string ⟨#[]⟩, .slice none 0 0, .int .i64 0, .int .i64 0, .int .i64 0, .int .i64 0]) := ⟨HG.out⟩
      clear HG
      go_wp2_with fail
      (with_reducible refine (primerref01_Int.calls 25 (w.heap.size + 1) s6 e6 b s7 e7 w _ G.out.isRef G.out.b (by rw [ref_Int_eq s6 e6 SZ.out.2.2.2.2.2.2.2.1 25 (by omega), H7.out])).mono ?_)
      rintro e wv ⟨rfl, hi, hb, hk⟩
      have G' := Aside0.mk (G.out.call hi.1 hb hk)
      have R' := Aside0.mk (row_call HRW.out G.out.i (by decide) hk)
      have hz : wv.cell? ⟨wv0.heap.size, 7, none⟩ = some (.int .i64 0) := (blk_cell G'.out.c 7).trans rfl
      have hf : wv.frozen? ⟨wv0.heap.size, 7, none⟩ = false := blk_frozen G'.out.c 7
      clear hi hb hk G HRW
      go_wp2_with fail
      go_roundw
      case rel => exact ⟨2, by omega, rfl, ⟨G'.out.store 7 (.int .i64 b)⟩, ⟨row_store R'.out G'.out.c (by decide) 7 (.int .i64 b)⟩⟩
      case measure => simp [intOf]
    · have G : Aside0 (GetSt w wr w.heap.size (w.heap.size + 1) wv0.heap.size 29 116 s7 e7 #[.int .i64 k, .string who, .string nm, .string ot, .string tx, .slice A wd.length cap, .int .i64 a, .int .i64 b, .int .i64 0, .int .i64 0] #[.int .i64 0, .string ⟨#[]⟩, .string ⟨#[]⟩, .string ⟨#[]⟩, .string ⟨#[]⟩, .slice none 0 0, .int .i64 0, .int .i64 0, .int .i64 0, .int .i64 0]) := ⟨HG.out⟩
      clear HG
      go_wp2_with fail
      (with_reducible refine (primerref01_Int.calls 25 (w.heap.size + 1) s7 e7 c s8 e8 w _ G.out.isRef G.out.b (by rw [ref_Int_eq s7 e7 SZ.out.2.2.2.2.2.2.2.2.1 25 (by omega), H8.out])).mono ?_)
      rintro e wv ⟨rfl, hi, hb, hk⟩
      have G' := Aside0.mk (G.out.call hi.1 hb hk)
      have R' := Aside0.mk (row_call HRW.out G.out.i (by decide) hk)
      have hz : wv.cell? ⟨wv0.heap.size, 8, none⟩ = some (.int .i64 0) := (blk_cell G'.out.c 8).trans rfl
      have hf : wv.frozen? ⟨wv0.heap.size, 8, none⟩ = false := blk_frozen G'.out.c 8
      clear hi hb hk G HRW
      go_wp2_with fail
      go_roundw
      case rel => exact ⟨3, by omega, rfl, ⟨G'.out.store 8 (.int .i64 c)⟩, ⟨row_store R'.out G'.out.c (by decide) 8 (.int .i64 c)⟩⟩
      case measure => simp [intOf]
    · have G : Aside0 (GetSt w wr w.heap.size (w.heap.size + 1) wv0.heap.size 29 116 s8 e8 #[.int .i64 k, .string who, .string nm, .string ot, .string tx, .slice A wd.length cap, .int .i64 a, .int .i64 b, .int .i64 c, .int .i64 0] #[.int .i64 0, .string ⟨#[]⟩, .string ⟨#[]⟩, .string ⟨#[]⟩, .string ⟨#[]⟩, .slice none 0 0, .int .i64 0, .int .i64 0, .int .i64 0, .int .i64 0]) := ⟨HG.out⟩
      clear HG
      go_wp2_with fail
      (with_reducible refine (primerref01_Int.calls 25 (w.heap.size + 1) s8 e8 d s9 e9 w _ G.out.isRef G.out.b (by rw [ref_Int_eq s8 e8 SZ.out.2.2.2.2.2.2.2.2.2 25 (by omega), H9.out])).mono ?_)
      rintro e wv ⟨rfl, hi, hb, hk⟩
      have G' := Aside0.mk (G.out.call hi.1 hb hk)
      have R' := Aside0.mk (row_call HRW.out G.out.i (by decide) hk)
      have hz : wv.cell? ⟨wv0.heap.size, 9, none⟩ = some (.int .i64 0) := (blk_cell G'.out.c 9).trans rfl
      have hf : wv.frozen? ⟨wv0.heap.size, 9, none⟩ = false := blk_frozen G'.out.c 9
      clear hi hb hk G HRW
      go_wp2_with fail
      go_roundw
      case rel => exact ⟨4, by omega, rfl, ⟨G'.out.store 9 (.int .i64 d)⟩, ⟨row_store R'.out G'.out.c (by decide) 9 (.int .i64 d)⟩⟩
      case measure => simp [intOf]
    · have G : Aside0 (GetSt w wr w.heap.size (w.heap.size + 1) wv0.heap.size 29 116 s9 e9 #[.int .i64 k, .string who, .string nm, .string ot, .string tx, .slice A wd.length cap, .int .i64 a, .int .i64 b, .int .i64 c, .int .i64 d] #[.int .i64 0, .string ⟨#[]⟩, .string ⟨#[]⟩, .string ⟨#[]⟩, .string ⟨#[]⟩, .slice none 0 0, .int .i64 0, .int .i64 0, .int .i64 0, .int .i64 0]) := ⟨HG.out⟩
      clear HG
      have zr0 : wr.cell? ⟨w.heap.size, 0, none⟩ = some (.int .i64 0) := (blk_cell G.out.r 0).trans rfl
      have fr0 : wr.frozen? ⟨w.heap.size, 0, none⟩ = false := blk_frozen G.out.r 0
      have zr1 : wr.cell? ⟨w.heap.size, 1, none⟩ = some (.string ⟨#[]⟩) := (blk_cell G.out.r 1).trans rfl
      have fr1 : wr.frozen? ⟨w.heap.size, 1, none⟩ = false := blk_frozen G.out.r 1
      have zr2 : wr.cell? ⟨w.heap.size, 2, none⟩ = some (.string ⟨#[]⟩) := (blk_cell G.out.r 2).trans rfl
      have fr2 : wr.frozen? ⟨w.heap.size, 2, none⟩ = false := blk_frozen G.out.r 2
      have zr3 : wr.cell? ⟨w.heap.size, 3, none⟩ = some (.string ⟨#[]⟩) := (blk_cell G.out.r 3).trans rfl
      have fr3 : wr.frozen? ⟨w.heap.size, 3, none⟩ = false := blk_frozen G.out.r 3
      have zr4 : wr.cell? ⟨w.heap.size, 4, none⟩ = some (.string ⟨#[]⟩) := (blk_cell G.out.r 4).trans rfl
      have fr4 : wr.frozen? ⟨w.heap.size, 4, none⟩ = false := blk_frozen G.out.r 4
      have zr5 : wr.cell? ⟨w.heap.size, 5, none⟩ = some (.slice none 0 0) := (blk_cell G.out.r 5).trans rfl
      have fr5 : wr.frozen? ⟨w.heap.size, 5, none⟩ = false := blk_frozen G.out.r 5
      have zr6 : wr.cell? ⟨w.heap.size, 6, none⟩ = some (.int .i64 0) := (blk_cell G.out.r 6).trans rfl
      have fr6 : wr.frozen? ⟨w.heap.size, 6, none⟩ = false := blk_frozen G.out.r 6
      have zr7 : wr.cell? ⟨w.heap.size, 7, none⟩ = some (.int .i64 0) := (blk_cell G.out.r 7).trans rfl
      have fr7 : wr.frozen? ⟨w.heap.size, 7, none⟩ = false := blk_frozen G.out.r 7
      have zr8 : wr.cell? ⟨w.heap.size, 8, none⟩ = some (.int .i64 0) := (blk_cell G.out.r 8).trans rfl
      have fr8 : wr.frozen? ⟨w.heap.size, 8, none⟩ = false := blk_frozen G.out.r 8
      have zr9 : wr.cell? ⟨w.heap.size, 9, none⟩ = some (.int .i64 0) := (blk_cell G.out.r 9).trans rfl
      have fr9 : wr.frozen? ⟨w.heap.size, 9, none⟩ = false := blk_frozen G.out.r 9
      have zi0 : wr.cell? ⟨(w.heap.size + 1), 0, none⟩ = some (.string s9) := (blk_cell G.out.i 0).trans rfl
      have zi1 : wr.cell? ⟨(w.heap.size + 1), 1, none⟩ = some (.int .i64 e9) := (blk_cell G.out.i 1).trans rfl
      have NR : Aside0 ((-9223372036854775808 ≤ a ∧ a ≤ 9223372036854775807) ∧ (-9223372036854775808 ≤ b ∧ b ≤ 9223372036854775807) ∧ (-9223372036854775808 ≤ c ∧ c ≤ 9223372036854775807) ∧ (-9223372036854775808 ≤ d ∧ d ≤ 9223372036854775807)) := ⟨rng H6.out, rng H7.out, rng H8.out, rng H9.out⟩
      have hw1 : who.size ≤ 65536 := by have h := (inText_size s0 e0).2; rw [H1.out] at h; exact h
      have hw2 : nm.size ≤ 65536 := by have h := (inText_size s1 e1).2; rw [H2.out] at h; exact h
      have hw3 : ot.size ≤ 65536 := by have h := (inText_size s2 e2).2; rw [H3.out] at h; exact h
      by_cases he : e9 = 0
      · subst he
        have HCW := Aside0.mk (row_C HRW.out)
        obtain ⟨gd, hgd⟩ : ∃ gd, goodC k who nm ot tx wd a b c d = gd := ⟨_, rfl⟩
        have HGD := Aside0.mk hgd
        have hcf := fun x => blk_cell G.out.c x
        have zc0 : wr.cell? ⟨wv0.heap.size, 0, none⟩ = some (.int .i64 k) := (hcf 0).trans rfl
        have zc1 : wr.cell? ⟨wv0.heap.size, 1, none⟩ = some (.string who) := (hcf 1).trans rfl
        have zc2 : wr.cell? ⟨wv0.heap.size, 2, none⟩ = some (.string nm) := (hcf 2).trans rfl
        have zc3 : wr.cell? ⟨wv0.heap.size, 3, none⟩ = some (.string ot) := (hcf 3).trans rfl
        have zc4 : wr.cell? ⟨wv0.heap.size, 4, none⟩ = some (.string tx) := (hcf 4).trans rfl
        have zc5 : wr.cell? ⟨wv0.heap.size, 5, none⟩ = some (.slice A wd.length cap) := (hcf 5).trans rfl
        have zc6 : wr.cell? ⟨wv0.heap.size, 6, none⟩ = some (.int .i64 a) := (hcf 6).trans rfl
        have zc7 : wr.cell? ⟨wv0.heap.size, 7, none⟩ = some (.int .i64 b) := (hcf 7).trans rfl
        have zc8 : wr.cell? ⟨wv0.heap.size, 8, none⟩ = some (.int .i64 c) := (hcf 8).trans rfl
        have zc9 : wr.cell? ⟨wv0.heap.size, 9, none⟩ = some (.int .i64 d) := (hcf 9).trans rfl
        clear hcf
        cases gd
        · have HT : Aside0 (getC s = (zeroV, 2)) := ⟨by unfold getC goodV; rw [HQ.out.1, HQ.out.2.2, if_neg (by simp)]; exact if_pos hgd⟩
          clear hgd
          go_wp2_with (first
            | fail
            | (go_at_call 16; (with_reducible refine (rGood_calls k who nm ot tx A cap wd a b c d _ (by omega) (by omega) (by omega) HCW.out.1 HCW.out.2 NR.out.1 NR.out.2.1 NR.out.2.2.1 NR.out.2.2.2).mono ?_); rintro e w8 ⟨rfl, hb8⟩; rw [HGD.out]; have G8 := Aside0.mk (G.out.quiet hb8); clear hb8 G; have G := G8; clear G8 zi0 zi1 zr0 fr0 zc0 zr1 fr1 zc1 zr2 fr2 zc2 zr3 fr3 zc3 zr4 fr4 zc4 zr5 fr5 zc5 zr6 fr6 zc6 zr7 fr7 zc7 zr8 fr8 zc8 zr9 fr9 zc9; have zr0 : w8.cell? ⟨w.heap.size, 0, none⟩ = some (.int .i64 0) := (blk_cell G.out.r 0).trans rfl; have fr0 : w8.frozen? ⟨w.heap.size, 0, none⟩ = false := blk_frozen G.out.r 0; have zr1 : w8.cell? ⟨w.heap.size, 1, none⟩ = some (.string ⟨#[]⟩) := (blk_cell G.out.r 1).trans rfl; have fr1 : w8.frozen? ⟨w.heap.size, 1, none⟩ = false := blk_frozen G.out.r 1; have zr2 : w8.cell? ⟨w.heap.size, 2, none⟩ = some (.string ⟨#[]⟩) := (blk_cell G.out.r 2).trans rfl; have fr2 : w8.frozen? ⟨w.heap.size, 2, none⟩ = false := blk_frozen G.out.r 2; have zr3 : w8.cell? ⟨w.heap.size, 3, none⟩ = some (.string ⟨#[]⟩) := (blk_cell G.out.r 3).trans rfl; have fr3 : w8.frozen? ⟨w.heap.size, 3, none⟩ = false := blk_frozen G.out.r 3; have zr4 : w8.cell? ⟨w.heap.size, 4, none⟩ = some (.string ⟨#[]⟩) := (blk_cell G.out.r 4).trans rfl; have fr4 : w8.frozen? ⟨w.heap.size, 4, none⟩ = false := blk_frozen G.out.r 4; have zr5 : w8.cell? ⟨w.heap.size, 5, none⟩ = some (.slice none 0 0) := (blk_cell G.out.r 5).trans rfl; have fr5 : w8.frozen? ⟨w.heap.size, 5, none⟩ = false := blk_frozen G.out.r 5; have zr6 : w8.cell? ⟨w.heap.size, 6, none⟩ = some (.int .i64 0) := (blk_cell G.out.r 6).trans rfl; have fr6 : w8.frozen? ⟨w.heap.size, 6, none⟩ = false := blk_frozen G.out.r 6; have zr7 : w8.cell? ⟨w.heap.size, 7, none⟩ = some (.int .i64 0) := (blk_cell G.out.r 7).trans rfl; have fr7 : w8.frozen? ⟨w.heap.size, 7, none⟩ = false := blk_frozen G.out.r 7; have zr8 : w8.cell? ⟨w.heap.size, 8, none⟩ = some (.int .i64 0) := (blk_cell G.out.r 8).trans rfl; have fr8 : w8.frozen? ⟨w.heap.size, 8, none⟩ = false := blk_frozen G.out.r 8; have zr9 : w8.cell? ⟨w.heap.size, 9, none⟩ = some (.int .i64 0) := (blk_cell G.out.r 9).trans rfl; have fr9 : w8.frozen? ⟨w.heap.size, 9, none⟩ = false := blk_frozen G.out.r 9; have zi0 : w8.cell? ⟨(w.heap.size + 1), 0, none⟩ = some (.string s9) := (blk_cell G.out.i 0).trans rfl))
          (try simp only [Exit.inBlock, Exit.then])
          refine bodyPost_ret (results_ct rfl _ _ w.heap.size 29 #[.int .i64 0, .string ⟨#[]⟩, .string ⟨#[]⟩, .string ⟨#[]⟩, .string ⟨#[]⟩, .slice none 0 0, .int .i64 0, .int .i64 0, .int .i64 0, .int .i64 0] (0, 0) _ rfl (put10 G.out.r _ _ _ _ _ _ _ _ _ _) Try.underlying29 rfl (by kernel_rfl)) rfl ?_
          exact told_zero HT.out (put10_below G.out.b (Nat.le_refl _) _ _ _ _ _ _ _ _ _ _)
        · by_cases hz9 : s9.size = 0
          · have HT : Aside0 (getC s = (⟨k, who, nm, ot, tx, wd, a, b, c, d⟩, 0)) := ⟨by unfold getC goodV; rw [HQ.out.1, HQ.out.2.1, HQ.out.2.2, if_neg (by simp)]; simp only [hgd]; simp [hz9]⟩
            have m1 : (s9.toList == ([] : List UInt8)) = true := by rw [beq_iff_eq]; exact (toList_nil_iff s9).mpr hz9
            have m2 : s9.toList.isEmpty = true := by rw [(toList_nil_iff s9).mpr hz9]; rfl
            clear hgd hz9
            go_wp2_with (first
              | fail
              | (go_at_call 16; (with_reducible refine (rGood_calls k who nm ot tx A cap wd a b c d _ (by omega) (by omega) (by omega) HCW.out.1 HCW.out.2 NR.out.1 NR.out.2.1 NR.out.2.2.1 NR.out.2.2.2).mono ?_); rintro e w8 ⟨rfl, hb8⟩; rw [HGD.out]; have G8 := Aside0.mk (G.out.quiet hb8); have HR8 := Aside0.mk (Kd.R_below HRW.out hb8); clear hb8 G; have G := G8; clear G8 zi0 zi1 zr0 fr0 zc0 zr1 fr1 zc1 zr2 fr2 zc2 zr3 fr3 zc3 zr4 fr4 zc4 zr5 fr5 zc5 zr6 fr6 zc6 zr7 fr7 zc7 zr8 fr8 zc8 zr9 fr9 zc9; have zr0 : w8.cell? ⟨w.heap.size, 0, none⟩ = some (.int .i64 0) := (blk_cell G.out.r 0).trans rfl; have fr0 : w8.frozen? ⟨w.heap.size, 0, none⟩ = false := blk_frozen G.out.r 0; have zr1 : w8.cell? ⟨w.heap.size, 1, none⟩ = some (.string ⟨#[]⟩) := (blk_cell G.out.r 1).trans rfl; have fr1 : w8.frozen? ⟨w.heap.size, 1, none⟩ = false := blk_frozen G.out.r 1; have zr2 : w8.cell? ⟨w.heap.size, 2, none⟩ = some (.string ⟨#[]⟩) := (blk_cell G.out.r 2).trans rfl; have fr2 : w8.frozen? ⟨w.heap.size, 2, none⟩ = false := blk_frozen G.out.r 2; have zr3 : w8.cell? ⟨w.heap.size, 3, none⟩ = some (.string ⟨#[]⟩) := (blk_cell G.out.r 3).trans rfl; have fr3 : w8.frozen? ⟨w.heap.size, 3, none⟩ = false := blk_frozen G.out.r 3; have zr4 : w8.cell? ⟨w.heap.size, 4, none⟩ = some (.string ⟨#[]⟩) := (blk_cell G.out.r 4).trans rfl; have fr4 : w8.frozen? ⟨w.heap.size, 4, none⟩ = false := blk_frozen G.out.r 4; have zr5 : w8.cell? ⟨w.heap.size, 5, none⟩ = some (.slice none 0 0) := (blk_cell G.out.r 5).trans rfl; have fr5 : w8.frozen? ⟨w.heap.size, 5, none⟩ = false := blk_frozen G.out.r 5; have zr6 : w8.cell? ⟨w.heap.size, 6, none⟩ = some (.int .i64 0) := (blk_cell G.out.r 6).trans rfl; have fr6 : w8.frozen? ⟨w.heap.size, 6, none⟩ = false := blk_frozen G.out.r 6; have zr7 : w8.cell? ⟨w.heap.size, 7, none⟩ = some (.int .i64 0) := (blk_cell G.out.r 7).trans rfl; have fr7 : w8.frozen? ⟨w.heap.size, 7, none⟩ = false := blk_frozen G.out.r 7; have zr8 : w8.cell? ⟨w.heap.size, 8, none⟩ = some (.int .i64 0) := (blk_cell G.out.r 8).trans rfl; have fr8 : w8.frozen? ⟨w.heap.size, 8, none⟩ = false := blk_frozen G.out.r 8; have zr9 : w8.cell? ⟨w.heap.size, 9, none⟩ = some (.int .i64 0) := (blk_cell G.out.r 9).trans rfl; have fr9 : w8.frozen? ⟨w.heap.size, 9, none⟩ = false := blk_frozen G.out.r 9; have zi0 : w8.cell? ⟨(w.heap.size + 1), 0, none⟩ = some (.string s9) := (blk_cell G.out.i 0).trans rfl; have zc0 : w8.cell? ⟨wv0.heap.size, 0, none⟩ = some (.int .i64 k) := (blk_cell G.out.c 0).trans rfl; have zc1 : w8.cell? ⟨wv0.heap.size, 1, none⟩ = some (.string who) := (blk_cell G.out.c 1).trans rfl; have zc2 : w8.cell? ⟨wv0.heap.size, 2, none⟩ = some (.string nm) := (blk_cell G.out.c 2).trans rfl; have zc3 : w8.cell? ⟨wv0.heap.size, 3, none⟩ = some (.string ot) := (blk_cell G.out.c 3).trans rfl; have zc4 : w8.cell? ⟨wv0.heap.size, 4, none⟩ = some (.string tx) := (blk_cell G.out.c 4).trans rfl; have zc5 : w8.cell? ⟨wv0.heap.size, 5, none⟩ = some (.slice A wd.length cap) := (blk_cell G.out.c 5).trans rfl; have zc6 : w8.cell? ⟨wv0.heap.size, 6, none⟩ = some (.int .i64 a) := (blk_cell G.out.c 6).trans rfl; have zc7 : w8.cell? ⟨wv0.heap.size, 7, none⟩ = some (.int .i64 b) := (blk_cell G.out.c 7).trans rfl; have zc8 : w8.cell? ⟨wv0.heap.size, 8, none⟩ = some (.int .i64 c) := (blk_cell G.out.c 8).trans rfl; have zc9 : w8.cell? ⟨wv0.heap.size, 9, none⟩ = some (.int .i64 d) := (blk_cell G.out.c 9).trans rfl))
            (try simp only [Exit.inBlock, Exit.then])
            refine bodyPost_ret (results_ct rfl _ _ w.heap.size 29 #[.int .i64 k, .string who, .string nm, .string ot, .string tx, .slice A wd.length cap, .int .i64 a, .int .i64 b, .int .i64 c, .int .i64 d] (0, 0) _ rfl (put10 G.out.r _ _ _ _ _ _ _ _ _ _) Try.underlying29 rfl (by kernel_rfl)) rfl ?_
            have HF := row_C (put10_row HR8.out G.out.r (by decide) (.int .i64 k) (.string who) (.string nm) (.string ot) (.string tx) (.slice A wd.length cap) (.int .i64 a) (.int .i64 b) (.int .i64 c) (.int .i64 d))
            exact told_ok HT.out HF.1 HF.2 (put10_below G.out.b (Nat.le_refl _) _ _ _ _ _ _ _ _ _ _)
          · have HT : Aside0 (getC s = (zeroV, 4)) := ⟨by unfold getC goodV; rw [HQ.out.1, HQ.out.2.1, HQ.out.2.2, if_neg (by simp)]; simp only [hgd]; simp [hz9]⟩
            have m1 : (s9.toList == ([] : List UInt8)) = false := by rw [beq_eq_false_iff_ne]; exact fun h => hz9 ((toList_nil_iff s9).mp h)
            have m2 : s9.toList.isEmpty = false := isEmpty_false hz9
            clear hgd hz9
            go_wp2_with (first
              | fail
              | (go_at_call 16; (with_reducible refine (rGood_calls k who nm ot tx A cap wd a b c d _ (by omega) (by omega) (by omega) HCW.out.1 HCW.out.2 NR.out.1 NR.out.2.1 NR.out.2.2.1 NR.out.2.2.2).mono ?_); rintro e w8 ⟨rfl, hb8⟩; rw [HGD.out]; have G8 := Aside0.mk (G.out.quiet hb8); clear hb8 G; have G := G8; clear G8 zi0 zi1 zr0 fr0 zc0 zr1 fr1 zc1 zr2 fr2 zc2 zr3 fr3 zc3 zr4 fr4 zc4 zr5 fr5 zc5 zr6 fr6 zc6 zr7 fr7 zc7 zr8 fr8 zc8 zr9 fr9 zc9; have zr0 : w8.cell? ⟨w.heap.size, 0, none⟩ = some (.int .i64 0) := (blk_cell G.out.r 0).trans rfl; have fr0 : w8.frozen? ⟨w.heap.size, 0, none⟩ = false := blk_frozen G.out.r 0; have zr1 : w8.cell? ⟨w.heap.size, 1, none⟩ = some (.string ⟨#[]⟩) := (blk_cell G.out.r 1).trans rfl; have fr1 : w8.frozen? ⟨w.heap.size, 1, none⟩ = false := blk_frozen G.out.r 1; have zr2 : w8.cell? ⟨w.heap.size, 2, none⟩ = some (.string ⟨#[]⟩) := (blk_cell G.out.r 2).trans rfl; have fr2 : w8.frozen? ⟨w.heap.size, 2, none⟩ = false := blk_frozen G.out.r 2; have zr3 : w8.cell? ⟨w.heap.size, 3, none⟩ = some (.string ⟨#[]⟩) := (blk_cell G.out.r 3).trans rfl; have fr3 : w8.frozen? ⟨w.heap.size, 3, none⟩ = false := blk_frozen G.out.r 3; have zr4 : w8.cell? ⟨w.heap.size, 4, none⟩ = some (.string ⟨#[]⟩) := (blk_cell G.out.r 4).trans rfl; have fr4 : w8.frozen? ⟨w.heap.size, 4, none⟩ = false := blk_frozen G.out.r 4; have zr5 : w8.cell? ⟨w.heap.size, 5, none⟩ = some (.slice none 0 0) := (blk_cell G.out.r 5).trans rfl; have fr5 : w8.frozen? ⟨w.heap.size, 5, none⟩ = false := blk_frozen G.out.r 5; have zr6 : w8.cell? ⟨w.heap.size, 6, none⟩ = some (.int .i64 0) := (blk_cell G.out.r 6).trans rfl; have fr6 : w8.frozen? ⟨w.heap.size, 6, none⟩ = false := blk_frozen G.out.r 6; have zr7 : w8.cell? ⟨w.heap.size, 7, none⟩ = some (.int .i64 0) := (blk_cell G.out.r 7).trans rfl; have fr7 : w8.frozen? ⟨w.heap.size, 7, none⟩ = false := blk_frozen G.out.r 7; have zr8 : w8.cell? ⟨w.heap.size, 8, none⟩ = some (.int .i64 0) := (blk_cell G.out.r 8).trans rfl; have fr8 : w8.frozen? ⟨w.heap.size, 8, none⟩ = false := blk_frozen G.out.r 8; have zr9 : w8.cell? ⟨w.heap.size, 9, none⟩ = some (.int .i64 0) := (blk_cell G.out.r 9).trans rfl; have fr9 : w8.frozen? ⟨w.heap.size, 9, none⟩ = false := blk_frozen G.out.r 9; have zi0 : w8.cell? ⟨(w.heap.size + 1), 0, none⟩ = some (.string s9) := (blk_cell G.out.i 0).trans rfl))
            (try simp only [Exit.inBlock, Exit.then])
            refine bodyPost_ret (results_ct rfl _ _ w.heap.size 29 #[.int .i64 0, .string ⟨#[]⟩, .string ⟨#[]⟩, .string ⟨#[]⟩, .string ⟨#[]⟩, .slice none 0 0, .int .i64 0, .int .i64 0, .int .i64 0, .int .i64 0] (0, 0) _ rfl (put10 G.out.r _ _ _ _ _ _ _ _ _ _) Try.underlying29 rfl (by kernel_rfl)) rfl ?_
            exact told_zero HT.out (put10_below G.out.b (Nat.le_refl _) _ _ _ _ _ _ _ _ _ _)
      · have he2 : (e9 != 0) = true := by rw [bne_iff_ne]; exact he
        have he3 : (e9 == 0) = false := by rw [beq_eq_false_iff_ne]; exact he
        have HT : Aside0 (getC s = (zeroV, e9)) := ⟨by unfold getC; rw [HQ.out.2.2]; exact if_pos he⟩
        go_wp2_with fail
        go_region
        go_wp2
        (try simp only [Exit.inBlock, Exit.then])
        refine bodyPost_ret (results_ct rfl _ _ w.heap.size 29 #[.int .i64 0, .string ⟨#[]⟩, .string ⟨#[]⟩, .string ⟨#[]⟩, .string ⟨#[]⟩, .slice none 0 0, .int .i64 0, .int .i64 0, .int .i64 0, .int .i64 0] (0, 0) _ rfl (blk_drew (put10 G.out.r _ _ _ _ _ _ _ _ _ _)) Try.underlying29 rfl (by kernel_rfl)) rfl ?_
        exact told_zero HT.out (below_drew (put10_below G.out.b (Nat.le_refl _) _ _ _ _ _ _ _ _ _ _))
end Go.Proofs.Ytnajmemcdipknaa.PK
namespace Go.Proofs.Ytnajmemcdipknaa.PK
open Go.RowKit Go.Proofs.YtnajmemcdipknaaW.PrintWords Go.Proofs.YtnajmemcdipknaaW.PrintLast Go.Proofs.YtnajmemcdipknaaW.PrintMore
set_option linter.unusedVariables false
set_option linter.unusedSimpArgs false
set_option maxRecDepth 100000
theorem textL_rng (s : ByteArray) : ∀ y ∈ textL s, 0 ≤ y ∧ y ≤ 255 := by
  intro y hy
  unfold textL at hy
  split at hy
  · simp at hy
  · rcases List.mem_append.1 hy with h | h
    · exact putL_range _ y h
    · exact bytesOf_range s y h
theorem textsL_rng (xs : List ByteArray) : ∀ y ∈ textsL xs, 0 ≤ y ∧ y ≤ 255 := by
  intro y hy
  unfold textsL at hy
  rcases List.mem_append.1 hy with h | h
  · exact putL_range _ y h
  · obtain ⟨z, _, hz⟩ := List.mem_flatMap.1 h
    exact textL_rng z y hz
theorem cmdL_rng (k : Int) (who nm ot tx : ByteArray) (wd : List ByteArray) (a b c d : Int) : ∀ y ∈ cmdL k who nm ot tx wd a b c d, 0 ≤ y ∧ y ≤ 255 := by
  intro y hy
  unfold cmdL at hy
  simp only [List.mem_append] at hy
  rcases hy with ((((((((h | h) | h) | h) | h) | h) | h) | h) | h) | h
  all_goals first | exact putL_range _ y h | exact textL_rng _ y h | exact textsL_rng _ y h
theorem fits_rng {n : Int} (h : fitsN n = true) : -9007199254740992 ≤ n ∧ n ≤ 9007199254740992 := by unfold fitsN at h; simpa using h
theorem get_put_cmd (k : Int) (who nm ot tx : ByteArray) (wd : List ByteArray) (a b c d : Int) (h : goodC k who nm ot tx wd a b c d = true) : getC (putC k who nm ot tx wd a b c d) = (⟨k, who, nm, ot, tx, wd, a, b, c, d⟩, 0) := by
  obtain ⟨⟨f1, f2⟩, f3, f4, f5, f6, f7, f8, fa, fb, fc, fd⟩ := good_facts h
  obtain ⟨s, hs⟩ : ∃ s, putC k who nm ot tx wd a b c d = s := ⟨_, rfl⟩
  have hb : bytesOf s = putL k ++ (textL who ++ (textL nm ++ (textL ot ++ (textL tx ++ (textsL wd ++ (putL a ++ (putL b ++ (putL c ++ (putL d ++ []))))))))) := by
    rw [← hs]
    unfold putC
    rw [if_pos h, strOf_bytes _ (cmdL_rng _ _ _ _ _ _ _ _ _ _)]
    simp only [cmdL, List.append_assoc, List.append_nil]
  obtain ⟨s0, h0, b0⟩ := rd_int k (by omega) s _ hb
  obtain ⟨s1, h1, b1⟩ := rd_text who (by omega) s0 _ b0
  obtain ⟨s2, h2, b2⟩ := rd_text nm (by omega) s1 _ b1
  obtain ⟨s3, h3, b3⟩ := rd_text ot (by omega) s2 _ b2
  obtain ⟨s4, h4, b4⟩ := rd_text tx (by omega) s3 _ b3
  obtain ⟨s5, h5, b5⟩ := rd_textsN 64 wd (fun x hx => by have := f8 x hx; omega) (by omega) (by omega) s4 _ b4
  obtain ⟨s6, h6, b6⟩ := rd_int a (fits_rng fa) s5 _ b5
  obtain ⟨s7, h7, b7⟩ := rd_int b (fits_rng fb) s6 _ b6
  obtain ⟨s8, h8, b8⟩ := rd_int c (fits_rng fc) s7 _ b7
  obtain ⟨s9, h9, b9⟩ := rd_int d (fits_rng fd) s8 _ b8
  have e0 : rk s = (k, s0, 0) := h0
  have e1 : r1 s = (who, s1, 0) := by unfold r1; rw [e0]; exact h1
  have e2 : r2 s = (nm, s2, 0) := by unfold r2; rw [e1]; exact h2
  have e3 : r3 s = (ot, s3, 0) := by unfold r3; rw [e2]; exact h3
  have e4 : r4 s = (tx, s4, 0) := by unfold r4; rw [e3]; exact h4
  have e5 : r5 s = (wd, s5, 0) := by unfold r5; rw [e4]; exact h5
  have e6 : r6 s = (a, s6, 0) := by unfold r6; rw [e5]; exact h6
  have e7 : r7 s = (b, s7, 0) := by unfold r7; rw [e6]; exact h7
  have e8 : r8 s = (c, s8, 0) := by unfold r8; rw [e7]; exact h8
  have e9 : r9 s = (d, s9, 0) := by unfold r9; rw [e8]; exact h9
  have er : readC s = ⟨k, who, nm, ot, tx, wd, a, b, c, d⟩ := by unfold readC; rw [e0, e1, e2, e3, e4, e5, e6, e7, e8, e9]
  have hz : s9.size = 0 := by rw [← bytesOf_len, b9]; rfl
  rw [hs]
  unfold getC goodV
  rw [er, e9, if_neg (by simp), if_neg (by simp [h]), if_pos hz]
end Go.Proofs.Ytnajmemcdipknaa.PK
namespace Go.Proofs.Ytnajmemcdipknaa.PK
open Go.RowKit Go.Proofs.YtnajmemcdipknaaW.PrintWords Go.Proofs.YtnajmemcdipknaaW.PrintLast Go.Proofs.YtnajmemcdipknaaW.PrintMore
set_option linter.unusedVariables false
set_option linter.unusedSimpArgs false
set_option maxRecDepth 100000
theorem split_rest {s : ByteArray} {k : Nat} : bytesOf s = (bytesOf s).take k ++ bytesOf (s.extract k s.size) := by
  rw [bytesOf_extract, ← bytesOf_len, List.take_length, List.take_append_drop]
theorem un_int {s s' : ByteArray} {e v : Int} (h : inInt s e = (v, s', 0)) : e = 0 ∧ bytesOf s = putL v ++ bytesOf s' ∧ fitsN v = true := by
  unfold inInt at h
  split at h
  · rename_i he
    split at h
    · rename_i h0
      have hg := getA_ok s h0
      injection h with h1 h2
      injection h2 with h2 h3
      subst h1
      refine ⟨he, ?_, by unfold fitsN; simp; omega⟩
      rw [hg.2.2.2.2.2, ← h2]
      exact split_rest
    · rename_i h0
      injection h with h1 h2
      injection h2 with h2 h3
      exact absurd h3 h0
  · rename_i he
    injection h with h1 h2
    injection h2 with h2 h3
    exact absurd h3 he
theorem un_size {s s' : ByteArray} {e v most : Int} (h : inSize s e most = (v, s', 0)) : e = 0 ∧ bytesOf s = putL v ++ bytesOf s' ∧ 0 ≤ v ∧ v ≤ most ∧ v ≤ 65536 := by
  have hok := inSize_ok s e most (by rw [h])
  rw [h] at hok
  unfold inSize at h
  obtain ⟨v1, s1, e1, hr⟩ : ∃ a b c, inInt s e = (a, b, c) := ⟨_, _, _, rfl⟩
  rw [hr] at h
  simp only at h
  split at h
  · rename_i h1
    subst h1
    injection h with h2 h3
    injection h3 with h3 h4
    rw [h4, if_pos rfl] at h2
    subst h2; subst h3
    obtain ⟨he, hb, _⟩ := un_int hr
    exact ⟨he, hb, hok.1, hok.2.2, hok.2.1⟩
  · rename_i h1
    injection h with h2 h3
    injection h3 with h3 h4
    exact absurd h4 h1
theorem un_text {s s' t : ByteArray} {e : Int} (h : inText s e = (t, s', 0)) : e = 0 ∧ bytesOf s = textL t ++ bytesOf s' ∧ t.size ≤ 65536 := by
  unfold inText at h
  obtain ⟨n, s1, e1, hr⟩ : ∃ a b c, inSize s e 65536 = (a, b, c) := ⟨_, _, _, rfl⟩
  rw [hr] at h
  simp only at h
  split at h
  · rename_i h1
    subst h1
    obtain ⟨he, hb, h0, _, h2⟩ := un_size hr
    split at h
    · rename_i hbig
      injection h with h3 h4
      injection h4 with h4 h5
      exact absurd h5 (by decide)
    · rename_i hbig
      injection h with h3 h4
      injection h4 with h4 h5
      have hle : n.toNat ≤ s1.size := by omega
      have hts : t.size = n.toNat := by rw [← h3]; exact ext0_size _ _ hle
      have htb : bytesOf t = (bytesOf s1).take n.toNat := by rw [← h3, bytesOf_extract]; rfl
      have hn : (t.size : Int) = n := by rw [hts]; omega
      refine ⟨he, ?_, by omega⟩
      rw [textL_small (by omega), hn, htb, ← h4, List.append_assoc, ← split_rest]
      exact hb
  · rename_i h1
    injection h with h3 h4
    injection h4 with h4 h5
    exact absurd h5 h1
theorem un_seq {α : Type} (f : ByteArray → α × ByteArray × Int) (enc : α → List Int) (good : α → Prop) (hf : ∀ s s' x, f s = (x, s', 0) → bytesOf s = enc x ++ bytesOf s' ∧ good x) (n : Nat) : ∀ s s' xs, seqL f n s = (xs, s', 0) → bytesOf s = xs.flatMap enc ++ bytesOf s' ∧ xs.length = n ∧ ∀ x ∈ xs, good x := by
  induction n with
  | zero =>
    intro s s' xs h
    simp only [seqL] at h
    injection h with h1 h2
    injection h2 with h2 h3
    subst h1; subst h2
    exact ⟨rfl, rfl, fun x hx => by simp at hx⟩
  | succ n ih =>
    intro s s' xs h
    simp only [seqL] at h
    obtain ⟨v, s1, e1, hr⟩ : ∃ a b c, f s = (a, b, c) := ⟨_, _, _, rfl⟩
    rw [hr] at h
    simp only at h
    split at h
    · rename_i h1
      subst h1
      obtain ⟨ys, s2, e2, hr2⟩ : ∃ a b c, seqL f n s1 = (a, b, c) := ⟨_, _, _, rfl⟩
      rw [hr2] at h
      simp only at h
      split at h
      · rename_i h2
        subst h2
        injection h with h3 h4
        injection h4 with h4 h5
        subst h3; subst h4
        obtain ⟨hb, hg⟩ := hf _ _ _ hr
        obtain ⟨hb2, hl, hg2⟩ := ih _ _ _ hr2
        refine ⟨by rw [hb, hb2, List.flatMap_cons, List.append_assoc], by simp [hl], fun x hx => ?_⟩
        rcases List.mem_cons.1 hx with rfl | hx
        · exact hg
        · exact hg2 x hx
      · rename_i h2
        injection h with h3 h4
        injection h4 with h4 h5
        exact absurd h5 h2
    · rename_i h1
      injection h with h3 h4
      injection h4 with h4 h5
      exact absurd h5 h1
theorem un_texts {s s' : ByteArray} {e most : Int} {xs : List ByteArray} (h : inTexts s e most = (xs, s', 0)) : e = 0 ∧ bytesOf s = textsL xs ++ bytesOf s' ∧ (xs.length : Int) ≤ most ∧ xs.length ≤ 65536 ∧ ∀ x ∈ xs, x.size ≤ 65536 := by
  unfold inTexts inSeq at h
  obtain ⟨n, s1, e1, hr⟩ : ∃ a b c, inSize s e most = (a, b, c) := ⟨_, _, _, rfl⟩
  rw [hr] at h
  simp only at h
  split at h
  · rename_i h1
    subst h1
    obtain ⟨he, hb, h0, hm, h2⟩ := un_size hr
    obtain ⟨hb2, hl, hg⟩ := un_seq (fun s => inText s 0) textL (fun x => x.size ≤ 65536) (fun s s' x hx => ⟨(un_text hx).2.1, (un_text hx).2.2⟩) _ _ _ _ h
    have hn : (xs.length : Int) = n := by rw [hl]; omega
    refine ⟨he, ?_, by omega, by omega, hg⟩
    unfold textsL
    rw [hn, hb, hb2, List.append_assoc]
  · rename_i h1
    injection h with h3 h4
    injection h4 with h4 h5
    exact absurd h5 h1
theorem put_get_cmd (s : ByteArray) (x : CmdV) (h : getC s = (x, 0)) : goodV x = true ∧ putC x.k x.who x.nm x.ot x.tx x.wd x.a x.b x.c x.d = s := by
  unfold getC at h
  split at h
  · rename_i h1
    injection h with h2 h3
    exact absurd h3 h1
  rename_i h1
  have h1 : (r9 s).2.2 = 0 := Decidable.not_not.mp h1
  split at h
  · injection h with h2 h3
    exact absurd h3 (by decide)
  rename_i hg
  split at h
  rotate_left
  · injection h with h2 h3
    exact absurd h3 (by decide)
  rename_i hz
  injection h with h2 _
  subst h2
  have hg : goodV (readC s) = true := by cases hq : goodV (readC s) <;> simp_all
  refine ⟨hg, ?_⟩
  have e9 : r9 s = ((r9 s).1, (r9 s).2.1, 0) := by rw [← h1]
  obtain ⟨z8, b9, _⟩ := un_int (show inInt (r8 s).2.1 (r8 s).2.2 = _ from e9)
  have e8 : r8 s = ((r8 s).1, (r8 s).2.1, 0) := by rw [← z8]
  obtain ⟨z7, b8, _⟩ := un_int (show inInt (r7 s).2.1 (r7 s).2.2 = _ from e8)
  have e7 : r7 s = ((r7 s).1, (r7 s).2.1, 0) := by rw [← z7]
  obtain ⟨z6, b7, _⟩ := un_int (show inInt (r6 s).2.1 (r6 s).2.2 = _ from e7)
  have e6 : r6 s = ((r6 s).1, (r6 s).2.1, 0) := by rw [← z6]
  obtain ⟨z5, b6, _⟩ := un_int (show inInt (r5 s).2.1 (r5 s).2.2 = _ from e6)
  have e5 : r5 s = ((r5 s).1, (r5 s).2.1, 0) := by rw [← z5]
  obtain ⟨z4, b5, _⟩ := un_texts (show inTexts (r4 s).2.1 (r4 s).2.2 64 = _ from e5)
  have e4 : r4 s = ((r4 s).1, (r4 s).2.1, 0) := by rw [← z4]
  obtain ⟨z3, b4, _⟩ := un_text (show inText (r3 s).2.1 (r3 s).2.2 = _ from e4)
  have e3 : r3 s = ((r3 s).1, (r3 s).2.1, 0) := by rw [← z3]
  obtain ⟨z2, b3, _⟩ := un_text (show inText (r2 s).2.1 (r2 s).2.2 = _ from e3)
  have e2 : r2 s = ((r2 s).1, (r2 s).2.1, 0) := by rw [← z2]
  obtain ⟨z1, b2, _⟩ := un_text (show inText (r1 s).2.1 (r1 s).2.2 = _ from e2)
  have e1 : r1 s = ((r1 s).1, (r1 s).2.1, 0) := by rw [← z1]
  obtain ⟨z0, b1, _⟩ := un_text (show inText (rk s).2.1 (rk s).2.2 = _ from e1)
  have e0 : rk s = ((rk s).1, (rk s).2.1, 0) := by rw [← z0]
  obtain ⟨_, b0, _⟩ := un_int (show inInt s 0 = _ from e0)
  have bz : bytesOf (r9 s).2.1 = [] := List.eq_nil_of_length_eq_zero (by rw [bytesOf_len]; exact hz)
  apply bytesOf_inj
  unfold putC
  rw [if_pos (show goodC _ _ _ _ _ _ _ _ _ _ = true from hg), strOf_bytes _ (cmdL_rng _ _ _ _ _ _ _ _ _ _), b0, b1, b2, b3, b4, b5, b6, b7, b8, b9, bz]
  simp only [cmdL, readC, List.append_assoc, List.append_nil]
end Go.Proofs.Ytnajmemcdipknaa.PK
