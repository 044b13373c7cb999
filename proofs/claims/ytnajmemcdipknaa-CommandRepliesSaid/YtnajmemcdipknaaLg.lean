/- command.Get, the walk: it tells getC. Condition: none.
Reading a reply, in plain words, and what a reader's walk carries. Condition: none.
command.GetReply, the walk. Condition: none.
primerlaw21.same, the walk. Condition: none.
primerlaw21.alike, the walk. Condition: the marks are words of 64 bits. -/
import Derived.Test.YtnajmemcdipknaaLf
import Derived.Deep.RegionHeld3
namespace Go.Proofs.Ytnajmemcdipknaa.PK
open Go.RowKit Go.Proofs.YtnajmemcdipknaaW.PrintWords Go.Proofs.YtnajmemcdipknaaW.PrintLast Go.Proofs.YtnajmemcdipknaaW.PrintMore
open Go.ChangeShapes Go.WideShapes
set_option linter.unusedVariables false
set_option linter.unusedSimpArgs false
set_option maxRecDepth 100000
theorem GetSt.isIn {w W : World} {gr gi gc : Nat} {TC : TypeId} {s : ByteArray} {e : Int} {cs zs : Array Value} (h : GetSt w W gr gi gc TC 153 s e cs zs) : IsS153 w W gi s e := ⟨h.i, h.li⟩
/-- What a reader of a command tells. -/
def Told (s : ByteArray) (w : World) (e : Ending) (w' : World) : Prop :=
  ∃ A cap, e = .returned (.tuple #[.agg (cellsV (getC s).1 A cap), .int .i64 (getC s).2]) ∧ Kd.C Kd.string w' A (getC s).1.wd.length (getC s).1.wd ∧ (getC s).1.wd.length ≤ cap ∧ Below w.heap.size w w'
theorem row_C {W : World} {base : Nat} {A : Option Addr} {cap : Nat} {xs : List ByteArray} (h : Kd.R Kd.string 9 W base (fun _ => True) (.slice A xs.length cap) xs) : Kd.C Kd.string W A xs.length xs ∧ xs.length ≤ cap := by
  obtain ⟨A', c', he, hl, hC⟩ := Kd.R_reads h
  injection he with h1 h2 h3
  subst h1; subst h3
  exact ⟨hC, hl⟩
theorem nil_C (w : World) : Kd.C Kd.string w none (zeroV.wd).length zeroV.wd := ⟨rfl, by simp [zeroV], fun h => absurd h (by simp [zeroV])⟩
theorem told_zero {s : ByteArray} {w w' : World} {x : Int} (h : getC s = (zeroV, x)) (hb : Below w.heap.size w w') : Told s w (.returned (.tuple #[.agg #[.int .i64 0, .string ⟨#[]⟩, .string ⟨#[]⟩, .string ⟨#[]⟩, .string ⟨#[]⟩, .slice none 0 0, .int .i64 0, .int .i64 0, .int .i64 0, .int .i64 0], .int .i64 x])) w' := by
  refine ⟨none, 0, ?_, ?_, ?_, hb⟩
  · rw [h]; rfl
  · rw [h]; exact nil_C w'
  · rw [h]; exact Nat.le_refl _
theorem told_ok {s : ByteArray} {w w' : World} {A : Option Addr} {cap : Nat} {k : Int} {who nm ot tx : ByteArray} {wd : List ByteArray} {a b c d : Int} (h : getC s = (⟨k, who, nm, ot, tx, wd, a, b, c, d⟩, 0)) (hC : Kd.C Kd.string w' A wd.length wd) (hc : wd.length ≤ cap) (hb : Below w.heap.size w w') :
    Told s w (.returned (.tuple #[.agg #[.int .i64 k, .string who, .string nm, .string ot, .string tx, .slice A wd.length cap, .int .i64 a, .int .i64 b, .int .i64 c, .int .i64 d], .int .i64 0])) w' := by
  refine ⟨A, cap, ?_, ?_, ?_, hb⟩
  · rw [h]; rfl
  · rw [h]; exact hC
  · rw [h]; exact hc
set_option maxHeartbeats 6400000 in
theorem cGet_calls (s : ByteArray) (w : World) : Calls Try.prog 18 #[.string s] w (Told s w) := by
  have hu := Try.underlying28
  obtain ⟨k, s0, e0, hq0⟩ : ∃ v s' e', rk s = (v, s', e') := ⟨_, _, _, rfl⟩
  have H0 : Aside0 (inInt s 0 = (k, s0, e0)) := ⟨by have h := hq0; unfold rk at h; exact h⟩
  obtain ⟨who, s1, e1, hq1⟩ : ∃ v s' e', r1 s = (v, s', e') := ⟨_, _, _, rfl⟩
  have H1 : Aside0 (inText s0 e0 = (who, s1, e1)) := ⟨by have h := hq1; unfold r1 at h; rw [hq0] at h; exact h⟩
  obtain ⟨nm, s2, e2, hq2⟩ : ∃ v s' e', r2 s = (v, s', e') := ⟨_, _, _, rfl⟩
  have H2 : Aside0 (inText s1 e1 = (nm, s2, e2)) := ⟨by have h := hq2; unfold r2 at h; rw [hq1] at h; exact h⟩
  obtain ⟨ot, s3, e3, hq3⟩ : ∃ v s' e', r3 s = (v, s', e') := ⟨_, _, _, rfl⟩
  have H3 : Aside0 (inText s2 e2 = (ot, s3, e3)) := ⟨by have h := hq3; unfold r3 at h; rw [hq2] at h; exact h⟩
  obtain ⟨tx, s4, e4, hq4⟩ : ∃ v s' e', r4 s = (v, s', e') := ⟨_, _, _, rfl⟩
  have H4 : Aside0 (inText s3 e3 = (tx, s4, e4)) := ⟨by have h := hq4; unfold r4 at h; rw [hq3] at h; exact h⟩
  obtain ⟨wd, s5, e5, hq5⟩ : ∃ v s' e', r5 s = (v, s', e') := ⟨_, _, _, rfl⟩
  have H5 : Aside0 (inTexts s4 e4 64 = (wd, s5, e5)) := ⟨by have h := hq5; unfold r5 at h; rw [hq4] at h; exact h⟩
  obtain ⟨a, s6, e6, hq6⟩ : ∃ v s' e', r6 s = (v, s', e') := ⟨_, _, _, rfl⟩
  have H6 : Aside0 (inInt s5 e5 = (a, s6, e6)) := ⟨by have h := hq6; unfold r6 at h; rw [hq5] at h; exact h⟩
  obtain ⟨b, s7, e7, hq7⟩ : ∃ v s' e', r7 s = (v, s', e') := ⟨_, _, _, rfl⟩
  have H7 : Aside0 (inInt s6 e6 = (b, s7, e7)) := ⟨by have h := hq7; unfold r7 at h; rw [hq6] at h; exact h⟩
  obtain ⟨c, s8, e8, hq8⟩ : ∃ v s' e', r8 s = (v, s', e') := ⟨_, _, _, rfl⟩
  have H8 : Aside0 (inInt s7 e7 = (c, s8, e8)) := ⟨by have h := hq8; unfold r8 at h; rw [hq7] at h; exact h⟩
  obtain ⟨d, s9, e9, hq9⟩ : ∃ v s' e', r9 s = (v, s', e') := ⟨_, _, _, rfl⟩
  have H9 : Aside0 (inInt s8 e8 = (d, s9, e9)) := ⟨by have h := hq9; unfold r9 at h; rw [hq8] at h; exact h⟩
  have HQ : Aside0 (readC s = ⟨k, who, nm, ot, tx, wd, a, b, c, d⟩ ∧ (r9 s).2.1 = s9 ∧ (r9 s).2.2 = e9) := ⟨by unfold readC; rw [hq0, hq1, hq2, hq3, hq4, hq5, hq6, hq7, hq8, hq9], by rw [hq9], by rw [hq9]⟩
  clear hq0 hq1 hq2 hq3 hq4 hq5 hq6 hq7 hq8 hq9
  go_enter Try.func18, Try.ntmps18
  go_wp2_with fail
  have hn := heap_alloc_new w (.cells #[.int .i64 0, .string ⟨#[]⟩, .string ⟨#[]⟩, .string ⟨#[]⟩, .string ⟨#[]⟩, .slice none 0 0, .int .i64 0, .int .i64 0, .int .i64 0, .int .i64 0] 28)
  have hb0 := below_alloc (Below.refl w.heap.size w) (.cells #[.int .i64 0, .string ⟨#[]⟩, .string ⟨#[]⟩, .string ⟨#[]⟩, .string ⟨#[]⟩, .slice none 0 0, .int .i64 0, .int .i64 0, .int .i64 0, .int .i64 0] 28)
  refine (octets_Open.calls s s 0 w _ hb0 rfl).mono ?_
  rintro e w2 ⟨gi, rfl, hi2, hb2, hbb⟩
  have hr2 := (hbb.block w.heap.size (blk_lt hn)).trans hn
  have hne : w.heap.size ≠ gi := blk_ne hr2 hi2.1 (by decide)
  have hlt := blk_lt hi2.1
  have hlr := blk_lt hr2
  have hn3 := heap_alloc_new w2 (.cells #[.int .i64 0, .string ⟨#[]⟩, .string ⟨#[]⟩, .string ⟨#[]⟩, .string ⟨#[]⟩, .slice none 0 0, .int .i64 0, .int .i64 0, .int .i64 0, .int .i64 0] 28)
  have hb3 := below_alloc (Below.refl w2.heap.size w2) (.cells #[.int .i64 0, .string ⟨#[]⟩, .string ⟨#[]⟩, .string ⟨#[]⟩, .string ⟨#[]⟩, .slice none 0 0, .int .i64 0, .int .i64 0, .int .i64 0, .int .i64 0] 28)
  have G : Aside0 (GetSt w (w2.alloc (.cells #[.int .i64 0, .string ⟨#[]⟩, .string ⟨#[]⟩, .string ⟨#[]⟩, .string ⟨#[]⟩, .slice none 0 0, .int .i64 0, .int .i64 0, .int .i64 0, .int .i64 0] 28)) w.heap.size gi w2.heap.size 28 153 s 0 #[.int .i64 0, .string ⟨#[]⟩, .string ⟨#[]⟩, .string ⟨#[]⟩, .string ⟨#[]⟩, .slice none 0 0, .int .i64 0, .int .i64 0, .int .i64 0, .int .i64 0] #[.int .i64 0, .string ⟨#[]⟩, .string ⟨#[]⟩, .string ⟨#[]⟩, .string ⟨#[]⟩, .slice none 0 0, .int .i64 0, .int .i64 0, .int .i64 0, .int .i64 0]) :=
    ⟨⟨(hb3.block gi hlt).trans hi2.1, hn3, (hb3.block _ hlr).trans hr2, below_then hb2 hb2.size hb3, Nat.le_refl _, hi2.2, hb2.size, by omega, hne, by omega⟩⟩
  clear hn hb0 hi2 hb2 hbb hr2 hne hlt hlr hn3 hb3
  go_wp2_with fail
  (with_reducible refine (octets_In_Int.calls gi s 0 k s0 e0 w _ G.out.isIn G.out.b (by rw [In_Int_eq, H0.out])).mono ?_)
  rintro e wv0 ⟨rfl, hi, hb, hk⟩
  have G' := Aside0.mk (G.out.call hi.1 hb hk)
  have hz : wv0.cell? ⟨w2.heap.size, 0, none⟩ = some (.int .i64 0) := (blk_cell G'.out.c 0).trans rfl
  have hf : wv0.frozen? ⟨w2.heap.size, 0, none⟩ = false := blk_frozen G'.out.c 0
  have G'' : Aside0 (GetSt w (wv0.setCell ⟨w2.heap.size, 0, none⟩ (.int .i64 k)) w.heap.size gi w2.heap.size 28 153 s0 e0 #[.int .i64 k, .string ⟨#[]⟩, .string ⟨#[]⟩, .string ⟨#[]⟩, .string ⟨#[]⟩, .slice none 0 0, .int .i64 0, .int .i64 0, .int .i64 0, .int .i64 0] #[.int .i64 0, .string ⟨#[]⟩, .string ⟨#[]⟩, .string ⟨#[]⟩, .string ⟨#[]⟩, .slice none 0 0, .int .i64 0, .int .i64 0, .int .i64 0, .int .i64 0]) := ⟨G'.out.store 0 (.int .i64 k)⟩
  clear hi hb hk G
  have G := G''
  clear G'' G'
  go_wp2_with fail
  clear hz hf
  (with_reducible refine (octets_In_Text.calls 1 gi s0 e0 who s1 e1 w _ G.out.isIn G.out.b (by rw [In_Text_eq s0 e0 1 (by omega), H1.out])).mono ?_)
  rintro e wv1 ⟨rfl, hi, hb, hk⟩
  have G' := Aside0.mk (G.out.call hi.1 hb hk)
  have hz : wv1.cell? ⟨w2.heap.size, 1, none⟩ = some (.string ⟨#[]⟩) := (blk_cell G'.out.c 1).trans rfl
  have hf : wv1.frozen? ⟨w2.heap.size, 1, none⟩ = false := blk_frozen G'.out.c 1
  have G'' : Aside0 (GetSt w (wv1.setCell ⟨w2.heap.size, 1, none⟩ (.string who)) w.heap.size gi w2.heap.size 28 153 s1 e1 #[.int .i64 k, .string who, .string ⟨#[]⟩, .string ⟨#[]⟩, .string ⟨#[]⟩, .slice none 0 0, .int .i64 0, .int .i64 0, .int .i64 0, .int .i64 0] #[.int .i64 0, .string ⟨#[]⟩, .string ⟨#[]⟩, .string ⟨#[]⟩, .string ⟨#[]⟩, .slice none 0 0, .int .i64 0, .int .i64 0, .int .i64 0, .int .i64 0]) := ⟨G'.out.store 1 (.string who)⟩
  clear hi hb hk G
  have G := G''
  clear G'' G'
  go_wp2_with fail
  clear hz hf
  (with_reducible refine (octets_In_Text.calls 1 gi s1 e1 nm s2 e2 w _ G.out.isIn G.out.b (by rw [In_Text_eq s1 e1 1 (by omega), H2.out])).mono ?_)
  rintro e wv2 ⟨rfl, hi, hb, hk⟩
  have G' := Aside0.mk (G.out.call hi.1 hb hk)
  have hz : wv2.cell? ⟨w2.heap.size, 2, none⟩ = some (.string ⟨#[]⟩) := (blk_cell G'.out.c 2).trans rfl
  have hf : wv2.frozen? ⟨w2.heap.size, 2, none⟩ = false := blk_frozen G'.out.c 2
  have G'' : Aside0 (GetSt w (wv2.setCell ⟨w2.heap.size, 2, none⟩ (.string nm)) w.heap.size gi w2.heap.size 28 153 s2 e2 #[.int .i64 k, .string who, .string nm, .string ⟨#[]⟩, .string ⟨#[]⟩, .slice none 0 0, .int .i64 0, .int .i64 0, .int .i64 0, .int .i64 0] #[.int .i64 0, .string ⟨#[]⟩, .string ⟨#[]⟩, .string ⟨#[]⟩, .string ⟨#[]⟩, .slice none 0 0, .int .i64 0, .int .i64 0, .int .i64 0, .int .i64 0]) := ⟨G'.out.store 2 (.string nm)⟩
  clear hi hb hk G
  have G := G''
  clear G'' G'
  go_wp2_with fail
  clear hz hf
  (with_reducible refine (octets_In_Text.calls 1 gi s2 e2 ot s3 e3 w _ G.out.isIn G.out.b (by rw [In_Text_eq s2 e2 1 (by omega), H3.out])).mono ?_)
  rintro e wv3 ⟨rfl, hi, hb, hk⟩
  have G' := Aside0.mk (G.out.call hi.1 hb hk)
  have hz : wv3.cell? ⟨w2.heap.size, 3, none⟩ = some (.string ⟨#[]⟩) := (blk_cell G'.out.c 3).trans rfl
  have hf : wv3.frozen? ⟨w2.heap.size, 3, none⟩ = false := blk_frozen G'.out.c 3
  have G'' : Aside0 (GetSt w (wv3.setCell ⟨w2.heap.size, 3, none⟩ (.string ot)) w.heap.size gi w2.heap.size 28 153 s3 e3 #[.int .i64 k, .string who, .string nm, .string ot, .string ⟨#[]⟩, .slice none 0 0, .int .i64 0, .int .i64 0, .int .i64 0, .int .i64 0] #[.int .i64 0, .string ⟨#[]⟩, .string ⟨#[]⟩, .string ⟨#[]⟩, .string ⟨#[]⟩, .slice none 0 0, .int .i64 0, .int .i64 0, .int .i64 0, .int .i64 0]) := ⟨G'.out.store 3 (.string ot)⟩
  clear hi hb hk G
  have G := G''
  clear G'' G'
  go_wp2_with fail
  clear hz hf
  (with_reducible refine (octets_In_Text.calls 1 gi s3 e3 tx s4 e4 w _ G.out.isIn G.out.b (by rw [In_Text_eq s3 e3 1 (by omega), H4.out])).mono ?_)
  rintro e wv4 ⟨rfl, hi, hb, hk⟩
  have G' := Aside0.mk (G.out.call hi.1 hb hk)
  have hz : wv4.cell? ⟨w2.heap.size, 4, none⟩ = some (.string ⟨#[]⟩) := (blk_cell G'.out.c 4).trans rfl
  have hf : wv4.frozen? ⟨w2.heap.size, 4, none⟩ = false := blk_frozen G'.out.c 4
  have G'' : Aside0 (GetSt w (wv4.setCell ⟨w2.heap.size, 4, none⟩ (.string tx)) w.heap.size gi w2.heap.size 28 153 s4 e4 #[.int .i64 k, .string who, .string nm, .string ot, .string tx, .slice none 0 0, .int .i64 0, .int .i64 0, .int .i64 0, .int .i64 0] #[.int .i64 0, .string ⟨#[]⟩, .string ⟨#[]⟩, .string ⟨#[]⟩, .string ⟨#[]⟩, .slice none 0 0, .int .i64 0, .int .i64 0, .int .i64 0, .int .i64 0]) := ⟨G'.out.store 4 (.string tx)⟩
  clear hi hb hk G
  have G := G''
  clear G'' G'
  go_wp2_with fail
  clear hz hf
  (with_reducible refine (octets_In_Texts.calls 65539 gi s4 e4 64 wd s5 e5 w _ G.out.isIn G.out.b (by rw [In_Texts_eq s4 e4 64 65539 (by omega), H5.out])).mono ?_)
  rintro e wv5 ⟨v0, rfl, hR, hi, hb, hk⟩
  obtain ⟨A, cap, ha, hcap, _⟩ := Kd.R_reads hR
  subst ha
  have G' := Aside0.mk (G.out.call hi.1 hb hk)
  have hz : wv5.cell? ⟨w2.heap.size, 5, none⟩ = some (.slice none 0 0) := (blk_cell G'.out.c 5).trans rfl
  have hf : wv5.frozen? ⟨w2.heap.size, 5, none⟩ = false := blk_frozen G'.out.c 5
  have G'' : Aside0 (GetSt w (wv5.setCell ⟨w2.heap.size, 5, none⟩ (.slice A wd.length cap)) w.heap.size gi w2.heap.size 28 153 s5 e5 #[.int .i64 k, .string who, .string nm, .string ot, .string tx, .slice A wd.length cap, .int .i64 0, .int .i64 0, .int .i64 0, .int .i64 0] #[.int .i64 0, .string ⟨#[]⟩, .string ⟨#[]⟩, .string ⟨#[]⟩, .string ⟨#[]⟩, .slice none 0 0, .int .i64 0, .int .i64 0, .int .i64 0, .int .i64 0]) := ⟨G'.out.store 5 (.slice A wd.length cap)⟩
  have R'' := Aside0.mk (row_store hR G'.out.c (by decide) 5 (.slice A wd.length cap))
  obtain ⟨bs, hbs⟩ : ∃ bs, bs = (wv5.heap.size) := ⟨_, rfl⟩
  clear hi hb hk G hR hbs
  have G := G''
  have HR6 := R''
  clear G'' G' R''
  go_wp2_with fail
  clear hz hf
  go_loopw [6, 29] (fun _ i wr => ∃ j : Nat, j ≤ 4 ∧ i = .int .i64 j ∧ Aside0 (GetSt w wr w.heap.size gi w2.heap.size 28 153 ([s5, s6, s7, s8, s9].getD j s9) ([e5, e6, e7, e8, e9].getD j e9) #[.int .i64 k, .string who, .string nm, .string ot, .string tx, .slice A wd.length cap, .int .i64 (if 0 < j then a else 0), .int .i64 (if 1 < j then b else 0), .int .i64 (if 2 < j then c else 0), .int .i64 (if 3 < j then d else 0)] #[.int .i64 0, .string ⟨#[]⟩, .string ⟨#[]⟩, .string ⟨#[]⟩, .string ⟨#[]⟩, .slice none 0 0, .int .i64 0, .int .i64 0, .int .i64 0, .int .i64 0]) ∧ Aside0 (Kd.R Kd.string 9 wr (wv4.setCell ⟨w2.heap.size, 4, none⟩ (.string tx)).heap.size (fun _ => True) (.slice A wd.length cap) wd)) (fun _ i _ => 4 - (intOf i).toNat)
  case atStart => exact ⟨0, Nat.zero_le _, rfl, ⟨G.out⟩, HR6⟩
  case round =>
    obtain ⟨j, hj, rfl, HG, HRW⟩ := hrel
    clear G HR6
    rcases (show j = 0 ∨ j = 1 ∨ j = 2 ∨ j = 3 ∨ j = 4 from by omega) with rfl | rfl | rfl | rfl | rfl
    · have G : Aside0 (GetSt w wr w.heap.size gi w2.heap.size 28 153 s5 e5 #[.int .i64 k, .string who, .string nm, .string ot, .string tx, .slice A wd.length cap, .int .i64 0, .int .i64 0, .int .i64 0, .int .i64 0] #[.int .i64 0, .string ⟨#[]⟩, .string ⟨#[]⟩, .string ⟨#[]⟩, .string ⟨#[]⟩, .slice none 0 0, .int .i64 0, .int .i64 0, .int .i64 0, .int .i64 0]) := ⟨HG.out⟩
      clear HG
      go_wp2_with fail
      (with_reducible refine (octets_In_Int.calls gi s5 e5 a s6 e6 w _ G.out.isIn G.out.b (by rw [In_Int_eq, H6.out])).mono ?_)
      rintro e wv ⟨rfl, hi, hb, hk⟩
      have G' := Aside0.mk (G.out.call hi.1 hb hk)
      have R' := Aside0.mk (row_call HRW.out G.out.i (by decide) hk)
      have hz : wv.cell? ⟨w2.heap.size, 6, none⟩ = some (.int .i64 0) := (blk_cell G'.out.c 6).trans rfl
      have hf : wv.frozen? ⟨w2.heap.size, 6, none⟩ = false := blk_frozen G'.out.c 6
      clear hi hb hk G HRW
      go_wp2_with fail
      go_roundw
      case rel => exact ⟨1, by omega, rfl, ⟨G'.out.store 6 (.int .i64 a)⟩, ⟨row_store R'.out G'.out.c (by decide) 6 (.int .i64 a)⟩⟩
      case measure => simp [intOf]
    · have G : Aside0 (GetSt w wr w.heap.size gi w2.heap.size 28 153 s6 e6 #[.int .i64 k, .string who, .string nm, .string ot, .string tx, .slice A wd.length cap, .int .i64 a, .int .i64 0, .int .i64 0, .int .i64 0] #[.int .i64 0, .string ⟨#[]⟩, .string ⟨#[]⟩, .string ⟨#[]⟩, .string ⟨#[]⟩, .slice none 0 0, .int .i64 0, .int .i64 0, .int .i64 0, .int .i64 0]) := ⟨HG.out⟩
      clear HG
      go_wp2_with fail
      (with_reducible refine (octets_In_Int.calls gi s6 e6 b s7 e7 w _ G.out.isIn G.out.b (by rw [In_Int_eq, H7.out])).mono ?_)
      rintro e wv ⟨rfl, hi, hb, hk⟩
      have G' := Aside0.mk (G.out.call hi.1 hb hk)
      have R' := Aside0.mk (row_call HRW.out G.out.i (by decide) hk)
      have hz : wv.cell? ⟨w2.heap.size, 7, none⟩ = some (.int .i64 0) := (blk_cell G'.out.c 7).trans rfl
      have hf : wv.frozen? ⟨w2.heap.size, 7, none⟩ = false := blk_frozen G'.out.c 7
      clear hi hb hk G HRW
      go_wp2_with fail
      go_roundw
      case rel => exact ⟨2, by omega, rfl, ⟨G'.out.store 7 (.int .i64 b)⟩, ⟨row_store R'.out G'.out.c (by decide) 7 (.int .i64 b)⟩⟩
      case measure => simp [intOf]
    · have G : Aside0 (GetSt w wr w.heap.size gi w2.heap.size 28 153 s7 e7 #[.int .i64 k, .string who, .string nm, .string ot, .string tx, .slice A wd.length cap, .int .i64 a, .int .i64 b, .int .i64 0, .int .i64 0] #[.int .i64 0, .string ⟨#[]⟩, .string ⟨#[]⟩, .string ⟨#[]⟩, .string ⟨#[]⟩, .slice none 0 0, .int .i64 0, .int .i64 0, .int .i64 0, .int .i64 0]) := ⟨HG.out⟩
      clear HG
      go_wp2_with fail
      (with_reducible refine (octets_In_Int.calls gi s7 e7 c s8 e8 w _ G.out.isIn G.out.b (by rw [In_Int_eq, H8.out])).mono ?_)
      rintro e wv ⟨rfl, hi, hb, hk⟩
      have G' := Aside0.mk (G.out.call hi.1 hb hk)
      have R' := Aside0.mk (row_call HRW.out G.out.i (by decide) hk)
      have hz : wv.cell? ⟨w2.heap.size, 8, none⟩ = some (.int .i64 0) := (blk_cell G'.out.c 8).trans rfl
      have hf : wv.frozen? ⟨w2.heap.size, 8, none⟩ = false := blk_frozen G'.out.c 8
      clear hi hb hk G HRW
      go_wp2_with fail
      go_roundw
      case rel => exact ⟨3, by omega, rfl, ⟨G'.out.store 8 (.int .i64 c)⟩, ⟨row_store R'.out G'.out.c (by decide) 8 (.int .i64 c)⟩⟩
      case measure => simp [intOf]
    · have G : Aside0 (GetSt w wr w.heap.size gi w2.heap.size 28 153 s8 e8 #[.int .i64 k, .string who, .string nm, .string ot, .string tx, .slice A wd.length cap, .int .i64 a, .int .i64 b, .int .i64 c, .int .i64 0] #[.int .i64 0, .string ⟨#[]⟩, .string ⟨#[]⟩, .string ⟨#[]⟩, .string ⟨#[]⟩, .slice none 0 0, .int .i64 0, .int .i64 0, .int .i64 0, .int .i64 0]) := ⟨HG.out⟩
      clear HG
      go_wp2_with fail
      (with_reducible refine (octets_In_Int.calls gi s8 e8 d s9 e9 w _ G.out.isIn G.out.b (by rw [In_Int_eq, H9.out])).mono ?_)
      rintro e wv ⟨rfl, hi, hb, hk⟩
      have G' := Aside0.mk (G.out.call hi.1 hb hk)
      have R' := Aside0.mk (row_call HRW.out G.out.i (by decide) hk)
      have hz : wv.cell? ⟨w2.heap.size, 9, none⟩ = some (.int .i64 0) := (blk_cell G'.out.c 9).trans rfl
      have hf : wv.frozen? ⟨w2.heap.size, 9, none⟩ = false := blk_frozen G'.out.c 9
      clear hi hb hk G HRW
      go_wp2_with fail
      go_roundw
      case rel => exact ⟨4, by omega, rfl, ⟨G'.out.store 9 (.int .i64 d)⟩, ⟨row_store R'.out G'.out.c (by decide) 9 (.int .i64 d)⟩⟩
      case measure => simp [intOf]
    · have G : Aside0 (GetSt w wr w.heap.size gi w2.heap.size 28 153 s9 e9 #[.int .i64 k, .string who, .string nm, .string ot, .string tx, .slice A wd.length cap, .int .i64 a, .int .i64 b, .int .i64 c, .int .i64 d] #[.int .i64 0, .string ⟨#[]⟩, .string ⟨#[]⟩, .string ⟨#[]⟩, .string ⟨#[]⟩, .slice none 0 0, .int .i64 0, .int .i64 0, .int .i64 0, .int .i64 0]) := ⟨HG.out⟩
      clear HG
      have zr0 : wr.cell? ⟨w.heap.size, 0, none⟩ = some (.int .i64 0) := (blk_cell G.out.r 0).trans rfl
      have fr0 : wr.frozen? ⟨w.heap.size, 0, none⟩ = false := blk_frozen G.out.r 0
      have zr1 : wr.cell? ⟨w.heap.size, 1, none⟩ = some (.string ⟨#[]⟩) := (blk_cell G.out.r 1).trans rfl
      have fr1 : wr.frozen? ⟨w.heap.size, 1, none⟩ = false := blk_frozen G.out.r 1
      have zr2 : wr.cell? ⟨w.heap.size, 2, none⟩ = some (.string ⟨#[]⟩) := (blk_cell G.out.r 2).trans rfl
      have fr2 : wr.frozen? ⟨w.heap.size, 2, none⟩ = false := blk_frozen G.out.r 2
      have zr3 : wr.cell? ⟨w.heap.size, 3, none⟩ = some (.string ⟨#[]⟩) := (blk_cell G.out.r 3).trans rfl
      have fr3 : wr.frozen? ⟨w.heap.size, 3, none⟩ = false := blk_frozen G.out.r 3
      have zr4 : wr.cell? ⟨w.heap.size, 4, none⟩ = some (.string ⟨#[]⟩) := (blk_cell G.out.r 4).trans rfl
      have fr4 : wr.frozen? ⟨w.heap.size, 4, none⟩ = false := blk_frozen G.out.r 4
      have zr5 : wr.cell? ⟨w.heap.size, 5, none⟩ = some (.slice none 0 0) := (blk_cell G.out.r 5).trans rfl
      have fr5 : wr.frozen? ⟨w.heap.size, 5, none⟩ = false := blk_frozen G.out.r 5
      have zr6 : wr.cell? ⟨w.heap.size, 6, none⟩ = some (.int .i64 0) := (blk_cell G.out.r 6).trans rfl
      have fr6 : wr.frozen? ⟨w.heap.size, 6, none⟩ = false := blk_frozen G.out.r 6
      have zr7 : wr.cell? ⟨w.heap.size, 7, none⟩ = some (.int .i64 0) := (blk_cell G.out.r 7).trans rfl
      have fr7 : wr.frozen? ⟨w.heap.size, 7, none⟩ = false := blk_frozen G.out.r 7
      have zr8 : wr.cell? ⟨w.heap.size, 8, none⟩ = some (.int .i64 0) := (blk_cell G.out.r 8).trans rfl
      have fr8 : wr.frozen? ⟨w.heap.size, 8, none⟩ = false := blk_frozen G.out.r 8
      have zr9 : wr.cell? ⟨w.heap.size, 9, none⟩ = some (.int .i64 0) := (blk_cell G.out.r 9).trans rfl
      have fr9 : wr.frozen? ⟨w.heap.size, 9, none⟩ = false := blk_frozen G.out.r 9
      have hgs : (getC s).2 = (getC s).2 := rfl
      clear hgs
      have hw1 : who.size ≤ 65536 := by have h := (inText_size s0 e0).2; rw [H1.out] at h; exact h
      have hw2 : nm.size ≤ 65536 := by have h := (inText_size s1 e1).2; rw [H2.out] at h; exact h
      have hw3 : ot.size ≤ 65536 := by have h := (inText_size s2 e2).2; rw [H3.out] at h; exact h
      by_cases he : e9 = 0
      · subst he
        have HCW := Aside0.mk (row_C HRW.out)
        obtain ⟨gd, hgd⟩ : ∃ gd, goodC k who nm ot tx wd a b c d = gd := ⟨_, rfl⟩
        have HGD := Aside0.mk hgd
        have hcf := fun x => blk_cell G.out.c x
        have zc0 : wr.cell? ⟨w2.heap.size, 0, none⟩ = some (.int .i64 k) := (hcf 0).trans rfl
        have zc1 : wr.cell? ⟨w2.heap.size, 1, none⟩ = some (.string who) := (hcf 1).trans rfl
        have zc2 : wr.cell? ⟨w2.heap.size, 2, none⟩ = some (.string nm) := (hcf 2).trans rfl
        have zc3 : wr.cell? ⟨w2.heap.size, 3, none⟩ = some (.string ot) := (hcf 3).trans rfl
        have zc4 : wr.cell? ⟨w2.heap.size, 4, none⟩ = some (.string tx) := (hcf 4).trans rfl
        have zc5 : wr.cell? ⟨w2.heap.size, 5, none⟩ = some (.slice A wd.length cap) := (hcf 5).trans rfl
        have zc6 : wr.cell? ⟨w2.heap.size, 6, none⟩ = some (.int .i64 a) := (hcf 6).trans rfl
        have zc7 : wr.cell? ⟨w2.heap.size, 7, none⟩ = some (.int .i64 b) := (hcf 7).trans rfl
        have zc8 : wr.cell? ⟨w2.heap.size, 8, none⟩ = some (.int .i64 c) := (hcf 8).trans rfl
        have zc9 : wr.cell? ⟨w2.heap.size, 9, none⟩ = some (.int .i64 d) := (hcf 9).trans rfl
        clear hcf
        cases gd
        · have HT : Aside0 (getC s = (zeroV, 2)) := ⟨by unfold getC goodV; rw [HQ.out.1, HQ.out.2.2, if_neg (by simp)]; exact if_pos hgd⟩
          clear hgd
          go_wp2_with (first
            | (go_at_call 56; refine (err_quiet gi s9 0 _ G.out.i).mono ?_; rintro e w' ⟨rfl, rfl⟩)
            | (go_at_call 15; (with_reducible refine (cGood_calls k who nm ot tx A cap wd a b c d _ (by omega) (by omega) (by omega) HCW.out.1 HCW.out.2).mono ?_); rintro e w8 ⟨rfl, hb8⟩; rw [HGD.out]; have G8 := Aside0.mk (G.out.quiet hb8); clear hb8 G; have G := G8; clear G8 zr0 fr0 zc0 zr1 fr1 zc1 zr2 fr2 zc2 zr3 fr3 zc3 zr4 fr4 zc4 zr5 fr5 zc5 zr6 fr6 zc6 zr7 fr7 zc7 zr8 fr8 zc8 zr9 fr9 zc9; have zr0 : w8.cell? ⟨w.heap.size, 0, none⟩ = some (.int .i64 0) := (blk_cell G.out.r 0).trans rfl; have fr0 : w8.frozen? ⟨w.heap.size, 0, none⟩ = false := blk_frozen G.out.r 0; have zr1 : w8.cell? ⟨w.heap.size, 1, none⟩ = some (.string ⟨#[]⟩) := (blk_cell G.out.r 1).trans rfl; have fr1 : w8.frozen? ⟨w.heap.size, 1, none⟩ = false := blk_frozen G.out.r 1; have zr2 : w8.cell? ⟨w.heap.size, 2, none⟩ = some (.string ⟨#[]⟩) := (blk_cell G.out.r 2).trans rfl; have fr2 : w8.frozen? ⟨w.heap.size, 2, none⟩ = false := blk_frozen G.out.r 2; have zr3 : w8.cell? ⟨w.heap.size, 3, none⟩ = some (.string ⟨#[]⟩) := (blk_cell G.out.r 3).trans rfl; have fr3 : w8.frozen? ⟨w.heap.size, 3, none⟩ = false := blk_frozen G.out.r 3; have zr4 : w8.cell? ⟨w.heap.size, 4, none⟩ = some (.string ⟨#[]⟩) := (blk_cell G.out.r 4).trans rfl; have fr4 : w8.frozen? ⟨w.heap.size, 4, none⟩ = false := blk_frozen G.out.r 4; have zr5 : w8.cell? ⟨w.heap.size, 5, none⟩ = some (.slice none 0 0) := (blk_cell G.out.r 5).trans rfl; have fr5 : w8.frozen? ⟨w.heap.size, 5, none⟩ = false := blk_frozen G.out.r 5; have zr6 : w8.cell? ⟨w.heap.size, 6, none⟩ = some (.int .i64 0) := (blk_cell G.out.r 6).trans rfl; have fr6 : w8.frozen? ⟨w.heap.size, 6, none⟩ = false := blk_frozen G.out.r 6; have zr7 : w8.cell? ⟨w.heap.size, 7, none⟩ = some (.int .i64 0) := (blk_cell G.out.r 7).trans rfl; have fr7 : w8.frozen? ⟨w.heap.size, 7, none⟩ = false := blk_frozen G.out.r 7; have zr8 : w8.cell? ⟨w.heap.size, 8, none⟩ = some (.int .i64 0) := (blk_cell G.out.r 8).trans rfl; have fr8 : w8.frozen? ⟨w.heap.size, 8, none⟩ = false := blk_frozen G.out.r 8; have zr9 : w8.cell? ⟨w.heap.size, 9, none⟩ = some (.int .i64 0) := (blk_cell G.out.r 9).trans rfl; have fr9 : w8.frozen? ⟨w.heap.size, 9, none⟩ = false := blk_frozen G.out.r 9))
          (try simp only [Exit.inBlock, Exit.then])
          refine bodyPost_ret (results_ct rfl _ _ w.heap.size 28 #[.int .i64 0, .string ⟨#[]⟩, .string ⟨#[]⟩, .string ⟨#[]⟩, .string ⟨#[]⟩, .slice none 0 0, .int .i64 0, .int .i64 0, .int .i64 0, .int .i64 0] (0, 0) _ rfl (put10 G.out.r _ _ _ _ _ _ _ _ _ _) Try.underlying28 rfl (by kernel_rfl)) rfl ?_
          exact told_zero HT.out (put10_below G.out.b (Nat.le_refl _) _ _ _ _ _ _ _ _ _ _)
        · by_cases hz9 : s9.size = 0
          · have HT : Aside0 (getC s = (⟨k, who, nm, ot, tx, wd, a, b, c, d⟩, 0)) := ⟨by unfold getC goodV; rw [HQ.out.1, HQ.out.2.1, HQ.out.2.2, if_neg (by simp)]; simp only [hgd]; simp [hz9]⟩
            have HEN : Aside0 (inEnd s9 0 = 0) := ⟨by unfold inEnd; rw [if_pos rfl, if_pos hz9]⟩
            clear hgd hz9
            go_wp2_with (first
              | (go_at_call 56; refine (err_quiet gi s9 0 _ G.out.i).mono ?_; rintro e w' ⟨rfl, rfl⟩)
              | (go_at_call 57; refine (end_quiet gi s9 0 _ G.out.i).mono ?_; rintro e w' ⟨rfl, rfl⟩; rw [HEN.out])
              | (go_at_call 15; (with_reducible refine (cGood_calls k who nm ot tx A cap wd a b c d _ (by omega) (by omega) (by omega) HCW.out.1 HCW.out.2).mono ?_); rintro e w8 ⟨rfl, hb8⟩; rw [HGD.out]; have G8 := Aside0.mk (G.out.quiet hb8); have HR8 := Aside0.mk (Kd.R_below HRW.out hb8); clear hb8 G; have G := G8; clear G8 zr0 fr0 zc0 zr1 fr1 zc1 zr2 fr2 zc2 zr3 fr3 zc3 zr4 fr4 zc4 zr5 fr5 zc5 zr6 fr6 zc6 zr7 fr7 zc7 zr8 fr8 zc8 zr9 fr9 zc9; have zr0 : w8.cell? ⟨w.heap.size, 0, none⟩ = some (.int .i64 0) := (blk_cell G.out.r 0).trans rfl; have fr0 : w8.frozen? ⟨w.heap.size, 0, none⟩ = false := blk_frozen G.out.r 0; have zr1 : w8.cell? ⟨w.heap.size, 1, none⟩ = some (.string ⟨#[]⟩) := (blk_cell G.out.r 1).trans rfl; have fr1 : w8.frozen? ⟨w.heap.size, 1, none⟩ = false := blk_frozen G.out.r 1; have zr2 : w8.cell? ⟨w.heap.size, 2, none⟩ = some (.string ⟨#[]⟩) := (blk_cell G.out.r 2).trans rfl; have fr2 : w8.frozen? ⟨w.heap.size, 2, none⟩ = false := blk_frozen G.out.r 2; have zr3 : w8.cell? ⟨w.heap.size, 3, none⟩ = some (.string ⟨#[]⟩) := (blk_cell G.out.r 3).trans rfl; have fr3 : w8.frozen? ⟨w.heap.size, 3, none⟩ = false := blk_frozen G.out.r 3; have zr4 : w8.cell? ⟨w.heap.size, 4, none⟩ = some (.string ⟨#[]⟩) := (blk_cell G.out.r 4).trans rfl; have fr4 : w8.frozen? ⟨w.heap.size, 4, none⟩ = false := blk_frozen G.out.r 4; have zr5 : w8.cell? ⟨w.heap.size, 5, none⟩ = some (.slice none 0 0) := (blk_cell G.out.r 5).trans rfl; have fr5 : w8.frozen? ⟨w.heap.size, 5, none⟩ = false := blk_frozen G.out.r 5; have zr6 : w8.cell? ⟨w.heap.size, 6, none⟩ = some (.int .i64 0) := (blk_cell G.out.r 6).trans rfl; have fr6 : w8.frozen? ⟨w.heap.size, 6, none⟩ = false := blk_frozen G.out.r 6; have zr7 : w8.cell? ⟨w.heap.size, 7, none⟩ = some (.int .i64 0) := (blk_cell G.out.r 7).trans rfl; have fr7 : w8.frozen? ⟨w.heap.size, 7, none⟩ = false := blk_frozen G.out.r 7; have zr8 : w8.cell? ⟨w.heap.size, 8, none⟩ = some (.int .i64 0) := (blk_cell G.out.r 8).trans rfl; have fr8 : w8.frozen? ⟨w.heap.size, 8, none⟩ = false := blk_frozen G.out.r 8; have zr9 : w8.cell? ⟨w.heap.size, 9, none⟩ = some (.int .i64 0) := (blk_cell G.out.r 9).trans rfl; have fr9 : w8.frozen? ⟨w.heap.size, 9, none⟩ = false := blk_frozen G.out.r 9; have zc0 : w8.cell? ⟨w2.heap.size, 0, none⟩ = some (.int .i64 k) := (blk_cell G.out.c 0).trans rfl; have zc1 : w8.cell? ⟨w2.heap.size, 1, none⟩ = some (.string who) := (blk_cell G.out.c 1).trans rfl; have zc2 : w8.cell? ⟨w2.heap.size, 2, none⟩ = some (.string nm) := (blk_cell G.out.c 2).trans rfl; have zc3 : w8.cell? ⟨w2.heap.size, 3, none⟩ = some (.string ot) := (blk_cell G.out.c 3).trans rfl; have zc4 : w8.cell? ⟨w2.heap.size, 4, none⟩ = some (.string tx) := (blk_cell G.out.c 4).trans rfl; have zc5 : w8.cell? ⟨w2.heap.size, 5, none⟩ = some (.slice A wd.length cap) := (blk_cell G.out.c 5).trans rfl; have zc6 : w8.cell? ⟨w2.heap.size, 6, none⟩ = some (.int .i64 a) := (blk_cell G.out.c 6).trans rfl; have zc7 : w8.cell? ⟨w2.heap.size, 7, none⟩ = some (.int .i64 b) := (blk_cell G.out.c 7).trans rfl; have zc8 : w8.cell? ⟨w2.heap.size, 8, none⟩ = some (.int .i64 c) := (blk_cell G.out.c 8).trans rfl; have zc9 : w8.cell? ⟨w2.heap.size, 9, none⟩ = some (.int .i64 d) := (blk_cell G.out.c 9).trans rfl))
            (try simp only [Exit.inBlock, Exit.then])
            refine bodyPost_ret (results_ct rfl _ _ w.heap.size 28 #[.int .i64 k, .string who, .string nm, .string ot, .string tx, .slice A wd.length cap, .int .i64 a, .int .i64 b, .int .i64 c, .int .i64 d] (0, 0) _ rfl (put10 G.out.r _ _ _ _ _ _ _ _ _ _) Try.underlying28 rfl (by kernel_rfl)) rfl ?_
            have HF := row_C (put10_row HR8.out G.out.r (by decide) (.int .i64 k) (.string who) (.string nm) (.string ot) (.string tx) (.slice A wd.length cap) (.int .i64 a) (.int .i64 b) (.int .i64 c) (.int .i64 d))
            exact told_ok HT.out HF.1 HF.2 (put10_below G.out.b (Nat.le_refl _) _ _ _ _ _ _ _ _ _ _)
          · have HT : Aside0 (getC s = (zeroV, 4)) := ⟨by unfold getC goodV; rw [HQ.out.1, HQ.out.2.1, HQ.out.2.2, if_neg (by simp)]; simp only [hgd]; simp [hz9]⟩
            have HEN : Aside0 (inEnd s9 0 = 4) := ⟨by unfold inEnd; rw [if_pos rfl, if_neg hz9]⟩
            clear hgd hz9
            go_wp2_with (first
              | (go_at_call 56; refine (err_quiet gi s9 0 _ G.out.i).mono ?_; rintro e w' ⟨rfl, rfl⟩)
              | (go_at_call 57; refine (end_quiet gi s9 0 _ G.out.i).mono ?_; rintro e w' ⟨rfl, rfl⟩; rw [HEN.out])
              | (go_at_call 15; (with_reducible refine (cGood_calls k who nm ot tx A cap wd a b c d _ (by omega) (by omega) (by omega) HCW.out.1 HCW.out.2).mono ?_); rintro e w8 ⟨rfl, hb8⟩; rw [HGD.out]; have G8 := Aside0.mk (G.out.quiet hb8); clear hb8 G; have G := G8; clear G8 zr0 fr0 zc0 zr1 fr1 zc1 zr2 fr2 zc2 zr3 fr3 zc3 zr4 fr4 zc4 zr5 fr5 zc5 zr6 fr6 zc6 zr7 fr7 zc7 zr8 fr8 zc8 zr9 fr9 zc9; have zr0 : w8.cell? ⟨w.heap.size, 0, none⟩ = some (.int .i64 0) := (blk_cell G.out.r 0).trans rfl; have fr0 : w8.frozen? ⟨w.heap.size, 0, none⟩ = false := blk_frozen G.out.r 0; have zr1 : w8.cell? ⟨w.heap.size, 1, none⟩ = some (.string ⟨#[]⟩) := (blk_cell G.out.r 1).trans rfl; have fr1 : w8.frozen? ⟨w.heap.size, 1, none⟩ = false := blk_frozen G.out.r 1; have zr2 : w8.cell? ⟨w.heap.size, 2, none⟩ = some (.string ⟨#[]⟩) := (blk_cell G.out.r 2).trans rfl; have fr2 : w8.frozen? ⟨w.heap.size, 2, none⟩ = false := blk_frozen G.out.r 2; have zr3 : w8.cell? ⟨w.heap.size, 3, none⟩ = some (.string ⟨#[]⟩) := (blk_cell G.out.r 3).trans rfl; have fr3 : w8.frozen? ⟨w.heap.size, 3, none⟩ = false := blk_frozen G.out.r 3; have zr4 : w8.cell? ⟨w.heap.size, 4, none⟩ = some (.string ⟨#[]⟩) := (blk_cell G.out.r 4).trans rfl; have fr4 : w8.frozen? ⟨w.heap.size, 4, none⟩ = false := blk_frozen G.out.r 4; have zr5 : w8.cell? ⟨w.heap.size, 5, none⟩ = some (.slice none 0 0) := (blk_cell G.out.r 5).trans rfl; have fr5 : w8.frozen? ⟨w.heap.size, 5, none⟩ = false := blk_frozen G.out.r 5; have zr6 : w8.cell? ⟨w.heap.size, 6, none⟩ = some (.int .i64 0) := (blk_cell G.out.r 6).trans rfl; have fr6 : w8.frozen? ⟨w.heap.size, 6, none⟩ = false := blk_frozen G.out.r 6; have zr7 : w8.cell? ⟨w.heap.size, 7, none⟩ = some (.int .i64 0) := (blk_cell G.out.r 7).trans rfl; have fr7 : w8.frozen? ⟨w.heap.size, 7, none⟩ = false := blk_frozen G.out.r 7; have zr8 : w8.cell? ⟨w.heap.size, 8, none⟩ = some (.int .i64 0) := (blk_cell G.out.r 8).trans rfl; have fr8 : w8.frozen? ⟨w.heap.size, 8, none⟩ = false := blk_frozen G.out.r 8; have zr9 : w8.cell? ⟨w.heap.size, 9, none⟩ = some (.int .i64 0) := (blk_cell G.out.r 9).trans rfl; have fr9 : w8.frozen? ⟨w.heap.size, 9, none⟩ = false := blk_frozen G.out.r 9))
            (try simp only [Exit.inBlock, Exit.then])
            refine bodyPost_ret (results_ct rfl _ _ w.heap.size 28 #[.int .i64 0, .string ⟨#[]⟩, .string ⟨#[]⟩, .string ⟨#[]⟩, .string ⟨#[]⟩, .slice none 0 0, .int .i64 0, .int .i64 0, .int .i64 0, .int .i64 0] (0, 0) _ rfl (put10 G.out.r _ _ _ _ _ _ _ _ _ _) Try.underlying28 rfl (by kernel_rfl)) rfl ?_
            exact told_zero HT.out (put10_below G.out.b (Nat.le_refl _) _ _ _ _ _ _ _ _ _ _)
      · have he2 : (e9 != 0) = true := by rw [bne_iff_ne]; exact he
        have he3 : (e9 == 0) = false := by rw [beq_eq_false_iff_ne]; exact he
        have HT : Aside0 (getC s = (zeroV, e9)) := ⟨by unfold getC; rw [HQ.out.2.2]; exact if_pos he⟩
        go_wp2_with (go_at_call 56; refine (err_quiet gi s9 e9 _ G.out.i).mono ?_; rintro e w' ⟨rfl, rfl⟩)
        (try simp only [Exit.inBlock, Exit.then])
        refine bodyPost_ret (results_ct rfl _ _ w.heap.size 28 #[.int .i64 0, .string ⟨#[]⟩, .string ⟨#[]⟩, .string ⟨#[]⟩, .string ⟨#[]⟩, .slice none 0 0, .int .i64 0, .int .i64 0, .int .i64 0, .int .i64 0] (0, 0) _ rfl (put10 G.out.r _ _ _ _ _ _ _ _ _ _) Try.underlying28 rfl (by kernel_rfl)) rfl ?_
        exact told_zero HT.out (put10_below G.out.b (Nat.le_refl _) _ _ _ _ _ _ _ _ _ _)
end Go.Proofs.Ytnajmemcdipknaa.PK
namespace Go.Proofs.Ytnajmemcdipknaa.PK
open Go.RowKit Go.Proofs.YtnajmemcdipknaaW.PrintWords Go.Proofs.YtnajmemcdipknaaW.PrintLast Go.Proofs.YtnajmemcdipknaaW.PrintMore
open Go.ChangeShapes Go.WideShapes
set_option linter.unusedVariables false
set_option linter.unusedSimpArgs false
set_option maxRecDepth 100000
structure RepV where
  code : Int
  line : Int
  col : Int
  cnt : Int
  tx : ByteArray
  ts : List ByteArray
  ms : List Nat
def zeroR : RepV := ⟨0, 0, 0, 0, ⟨#[]⟩, [], []⟩
def q0 (s : ByteArray) := inInt s 0
def q1 (s : ByteArray) := inInt (q0 s).2.1 (q0 s).2.2
def q2 (s : ByteArray) := inInt (q1 s).2.1 (q1 s).2.2
def q3 (s : ByteArray) := inInt (q2 s).2.1 (q2 s).2.2
def q4 (s : ByteArray) := inText (q3 s).2.1 (q3 s).2.2
def q5 (s : ByteArray) := inTexts (q4 s).2.1 (q4 s).2.2 4096
def q6 (s : ByteArray) := inTexts (q5 s).2.1 (q5 s).2.2 4096
def badMs (l : List ByteArray) : Bool := l.any fun x => decide ((getM x).2 ≠ 0)
def valMs (l : List ByteArray) : List Nat := l.map fun x => (getM x).1
def getR (s : ByteArray) : RepV × Int :=
  if (q6 s).2.2 ≠ 0 then (zeroR, (q6 s).2.2) else if (q0 s).1 < 0 ∨ 20 < (q0 s).1 then (zeroR, 2) else if badMs (q6 s).1 then (zeroR, 2)
  else if (q6 s).2.1.size = 0 then (⟨(q0 s).1, (q1 s).1, (q2 s).1, (q3 s).1, (q4 s).1, (q5 s).1, valMs (q6 s).1⟩, 0) else (zeroR, 4)
/-- All blocks of one type are as they were. -/
def SameT (t : TypeId) (W W' : World) : Prop := ∀ (k : Nat) (cells : Array Value) (fr : Nat × Nat), W.heap[k]? = some (Obj.cells cells t fr) → W'.heap[k]? = W.heap[k]?
section
variable {t : TypeId} {W W' W2 : World}
theorem SameT.refl (t : TypeId) (W : World) : SameT t W W := fun _ _ _ _ => rfl
theorem SameT.trans (h : SameT t W W') (k : SameT t W' W2) : SameT t W W2 := fun i c f hi => (k i c f ((h i c f hi).trans hi)).trans (h i c f hi)
theorem SameT.below (h : Below W.heap.size W W') : SameT t W W' := fun i c f hi => h.block i (blk_lt hi)
theorem SameT.keep {g : Nat} {T : TypeId} {cs : Array Value} {fr : Nat × Nat} (hk : KeepBut W W' g none) (hg : W.heap[g]? = some (.cells cs T fr)) (hT : t ≠ T) : SameT t W W' := fun i c f hi =>
  hk.2 i (blk_lt hi) (fun e => by subst e; rw [hg] at hi; injection hi with hi; injection hi with _ h2; exact hT h2.symm) (by simp)
theorem SameT.set_ {g : Nat} {T : TypeId} {cs : Array Value} {fr : Nat × Nat} (hg : W.heap[g]? = some (.cells cs T fr)) (hT : t ≠ T) (i : Nat) (u : Value) : SameT t W (W.setCell ⟨g, i, none⟩ u) := fun k c f hi =>
  Below.heap_setCell W ⟨g, i, none⟩ u k (fun e => by subst e; rw [hg] at hi; injection hi with hi; injection hi with _ h2; exact hT h2.symm)
theorem SameT.grown {e : TypeId} {b n sz : Nat} {v : Value} {xs : List Value} (hg : W.grownBy W' v.ownBlock) (ho : W.ownsRow b e sz v n xs) (he : t ≠ e) : SameT t W W' := fun k c f hi =>
  hg.block k (blk_lt hi) (fun hk => by obtain ⟨c2, h2⟩ := own_typed ho k hk.symm; rw [h2] at hi; injection hi with hi; injection hi with _ h3; exact he h3.symm)
theorem own_same {b n sz : Nat} {v : Value} {xs : List Value} (h : W.ownsRow b t sz v n xs) (k : SameT t W W') : W'.ownsRow b t sz v n xs := own_move h (fun i hi => by obtain ⟨c, hc⟩ := own_typed h i hi; exact k i c _ hc)
theorem blk_same {g : Nat} {cs : Array Value} {fr : Nat × Nat} (h : W.heap[g]? = some (.cells cs t fr)) (k : SameT t W W') : W'.heap[g]? = some (.cells cs t fr) := (k g cs fr h).trans h
end
theorem put7 {W : World} {g : Nat} {T : TypeId} {c0 c1 c2 c3 c4 c5 c6 : Value} (h : W.heap[g]? = some (.cells #[c0, c1, c2, c3, c4, c5, c6] T (0, 0))) (v0 v1 v2 v3 v4 v5 v6 : Value) :
    (((((((W.setCell ⟨g, 0, none⟩ v0).setCell ⟨g, 1, none⟩ v1).setCell ⟨g, 2, none⟩ v2).setCell ⟨g, 3, none⟩ v3).setCell ⟨g, 4, none⟩ v4).setCell ⟨g, 5, none⟩ v5).setCell ⟨g, 6, none⟩ v6).heap[g]? = some (.cells #[v0, v1, v2, v3, v4, v5, v6] T (0, 0)) := by
  have h0 : Blk (W.setCell ⟨g, 0, none⟩ v0) g T #[v0, c1, c2, c3, c4, c5, c6] := Blk.set_ (show Blk W g T _ from h) 0 v0
  have h1 : Blk ((W.setCell ⟨g, 0, none⟩ v0).setCell ⟨g, 1, none⟩ v1) g T #[v0, v1, c2, c3, c4, c5, c6] := Blk.set_ h0 1 v1
  have h2 : Blk (((W.setCell ⟨g, 0, none⟩ v0).setCell ⟨g, 1, none⟩ v1).setCell ⟨g, 2, none⟩ v2) g T #[v0, v1, v2, c3, c4, c5, c6] := Blk.set_ h1 2 v2
  have h3 : Blk ((((W.setCell ⟨g, 0, none⟩ v0).setCell ⟨g, 1, none⟩ v1).setCell ⟨g, 2, none⟩ v2).setCell ⟨g, 3, none⟩ v3) g T #[v0, v1, v2, v3, c4, c5, c6] := Blk.set_ h2 3 v3
  have h4 : Blk (((((W.setCell ⟨g, 0, none⟩ v0).setCell ⟨g, 1, none⟩ v1).setCell ⟨g, 2, none⟩ v2).setCell ⟨g, 3, none⟩ v3).setCell ⟨g, 4, none⟩ v4) g T #[v0, v1, v2, v3, v4, c5, c6] := Blk.set_ h3 4 v4
  have h5 : Blk ((((((W.setCell ⟨g, 0, none⟩ v0).setCell ⟨g, 1, none⟩ v1).setCell ⟨g, 2, none⟩ v2).setCell ⟨g, 3, none⟩ v3).setCell ⟨g, 4, none⟩ v4).setCell ⟨g, 5, none⟩ v5) g T #[v0, v1, v2, v3, v4, v5, c6] := Blk.set_ h4 5 v5
  have h6 : Blk (((((((W.setCell ⟨g, 0, none⟩ v0).setCell ⟨g, 1, none⟩ v1).setCell ⟨g, 2, none⟩ v2).setCell ⟨g, 3, none⟩ v3).setCell ⟨g, 4, none⟩ v4).setCell ⟨g, 5, none⟩ v5).setCell ⟨g, 6, none⟩ v6) g T #[v0, v1, v2, v3, v4, v5, v6] := Blk.set_ h5 6 v6
  exact h6
theorem put7_below {w W : World} {g : Nat} (h : Below w.heap.size w W) (hg : w.heap.size ≤ g) (v0 v1 v2 v3 v4 v5 v6 : Value) : Below w.heap.size w (((((((W.setCell ⟨g, 0, none⟩ v0).setCell ⟨g, 1, none⟩ v1).setCell ⟨g, 2, none⟩ v2).setCell ⟨g, 3, none⟩ v3).setCell ⟨g, 4, none⟩ v4).setCell ⟨g, 5, none⟩ v5).setCell ⟨g, 6, none⟩ v6) :=
  (below_set (below_set (below_set (below_set (below_set (below_set (below_set h hg) hg) hg) hg) hg) hg) hg)
theorem put7_far {W : World} {g : Nat} (v0 v1 v2 v3 v4 v5 v6 : Value) (k : Nat) (hk : k ≠ g) : (((((((W.setCell ⟨g, 0, none⟩ v0).setCell ⟨g, 1, none⟩ v1).setCell ⟨g, 2, none⟩ v2).setCell ⟨g, 3, none⟩ v3).setCell ⟨g, 4, none⟩ v4).setCell ⟨g, 5, none⟩ v5).setCell ⟨g, 6, none⟩ v6).heap[k]? = W.heap[k]? := by
  simp only [Below.heap_setCell _ ⟨g, _, none⟩ _ k hk]
theorem put7_same {t : TypeId} {W : World} {g : Nat} {T : TypeId} {cs : Array Value} (h : W.heap[g]? = some (.cells cs T (0, 0))) (hT : t ≠ T) (v0 v1 v2 v3 v4 v5 v6 : Value) : SameT t W (((((((W.setCell ⟨g, 0, none⟩ v0).setCell ⟨g, 1, none⟩ v1).setCell ⟨g, 2, none⟩ v2).setCell ⟨g, 3, none⟩ v3).setCell ⟨g, 4, none⟩ v4).setCell ⟨g, 5, none⟩ v5).setCell ⟨g, 6, none⟩ v6) := fun k c f hi =>
  put7_far v0 v1 v2 v3 v4 v5 v6 k (fun e => by subst e; rw [h] at hi; injection hi with hi; injection hi with _ h2; exact hT h2.symm)
/-- What a reader of a reply tells, field by field. -/
def ToldR (x : RepV) (er : Int) (w : World) (e : Ending) (w' : World) : Prop :=
  ∃ A cap M capm, e = .returned (.tuple #[.agg #[.int .i64 x.code, .int .i64 x.line, .int .i64 x.col, .int .i64 x.cnt, .string x.tx, .slice A x.ts.length cap, .slice M x.ms.length capm], .int .i64 er]) ∧
    Kd.C Kd.string w' A x.ts.length x.ts ∧ x.ts.length ≤ cap ∧ Kd.C kF w' M x.ms.length x.ms ∧ x.ms.length ≤ capm ∧ Below w.heap.size w w'
theorem toldR_zero {w w' : World} {er : Int} (hb : Below w.heap.size w w') : ToldR zeroR er w (.returned (.tuple #[.agg #[.int .i64 0, .int .i64 0, .int .i64 0, .int .i64 0, .string ⟨#[]⟩, .slice none 0 0, .slice none 0 0], .int .i64 er])) w' :=
  ⟨none, 0, none, 0, rfl, Kd.C_nil _ _, Nat.le_refl _, Kd.C_nil _ _, Nat.le_refl _, hb⟩
theorem toldR_z {s : ByteArray} {w w' : World} {er : Int} (h : getR s = (zeroR, er)) (hb : Below w.heap.size w w') : ToldR (getR s).1 (getR s).2 w (.returned (.tuple #[.agg #[.int .i64 0, .int .i64 0, .int .i64 0, .int .i64 0, .string ⟨#[]⟩, .slice none 0 0, .slice none 0 0], .int .i64 er])) w' := by
  rw [h]; exact toldR_zero hb
theorem own_CF {W : World} {base : Nat} {B : Option Addr} {c1 : Nat} {ms : List Nat} (h : W.ownsRow base 120 1 (.slice B ms.length c1) ms.length (encs (Value.float .f64) ms)) : Kd.C kF W B ms.length ms ∧ ms.length ≤ c1 := by
  obtain ⟨B', c', he, hl, hR⟩ := own_reads_of_le (d := (0 : Nat)) h
  injection he with h1 h2 h3
  subst h1; subst h3
  exact ⟨Kd.C_of_reads (d := (0 : Nat)) hR, hl⟩
theorem toldR_ok {s : ByteArray} {w w' : World} {A : Option Addr} {cap : Nat} {M : Option Addr} {capm n base b5 : Nat} {code line col cnt : Int} {tx : ByteArray} {ts : List ByteArray} {ms : List Nat} (h : getR s = (⟨code, line, col, cnt, tx, ts, ms⟩, 0)) (hn : ms.length = n)
    (h1 : w'.ownsRow b5 9 1 (.slice A ts.length cap) ts.length (encs Value.string ts)) (h3 : w'.ownsRow base 120 1 (.slice M n capm) n (encs (Value.float .f64) ms)) (hb : Below w.heap.size w w') :
    ToldR (getR s).1 (getR s).2 w (.returned (.tuple #[.agg #[.int .i64 code, .int .i64 line, .int .i64 col, .int .i64 cnt, .string tx, .slice A ts.length cap, .slice M n capm], .int .i64 0])) w' := by
  subst hn
  rw [h]
  have h4 := own_CF h3
  have h2 := own_C h1
  exact ⟨A, cap, M, capm, rfl, h2.1, h2.2, h4.1, h4.2, hb⟩
theorem info120 : (Try.prog.info? 120).map (fun i => (i.zero, i.size, i.bytes)) = some (some (.float .f64 0), 1, 8) := by kernel_rfl
end Go.Proofs.Ytnajmemcdipknaa.PK
namespace Go.Proofs.Ytnajmemcdipknaa.PK
open Go.RowKit Go.Proofs.YtnajmemcdipknaaW.PrintWords Go.Proofs.YtnajmemcdipknaaW.PrintLast Go.Proofs.YtnajmemcdipknaaW.PrintMore
open Go.ChangeShapes Go.WideShapes
set_option linter.unusedVariables false
set_option linter.unusedSimpArgs false
set_option maxRecDepth 100000
theorem GetSt.moved {w W W' : World} {gr gi gc : Nat} {TC TI : TypeId} {s : ByteArray} {e : Int} {cs zs : Array Value} (h : GetSt w W gr gi gc TC TI s e cs zs) (hC : SameT TC W W') (hI : SameT TI W W') (hb : Below w.heap.size w W') : GetSt w W' gr gi gc TC TI s e cs zs :=
  ⟨blk_same h.i hI, blk_same h.c hC, blk_same h.r hC, hb, h.lr, h.li, h.lc, h.nic, h.nri, h.nrc⟩
set_option maxHeartbeats 6400000 in
theorem cGetReply_calls (s : ByteArray) (w : World) : Calls Try.prog 21 #[.string s] w (ToldR (getR s).1 (getR s).2 w) := by
  have hu := Try.underlying44
  obtain ⟨code, s0, e0, hq0⟩ : ∃ v s' e', q0 s = (v, s', e') := ⟨_, _, _, rfl⟩
  have H0 : Aside0 (inInt s 0 = (code, s0, e0)) := ⟨by have h := hq0; unfold q0 at h; exact h⟩
  obtain ⟨line, s1, e1, hq1⟩ : ∃ v s' e', q1 s = (v, s', e') := ⟨_, _, _, rfl⟩
  have H1 : Aside0 (inInt s0 e0 = (line, s1, e1)) := ⟨by have h := hq1; unfold q1 at h; rw [hq0] at h; exact h⟩
  obtain ⟨col, s2, e2, hq2⟩ : ∃ v s' e', q2 s = (v, s', e') := ⟨_, _, _, rfl⟩
  have H2 : Aside0 (inInt s1 e1 = (col, s2, e2)) := ⟨by have h := hq2; unfold q2 at h; rw [hq1] at h; exact h⟩
  obtain ⟨cnt, s3, e3, hq3⟩ : ∃ v s' e', q3 s = (v, s', e') := ⟨_, _, _, rfl⟩
  have H3 : Aside0 (inInt s2 e2 = (cnt, s3, e3)) := ⟨by have h := hq3; unfold q3 at h; rw [hq2] at h; exact h⟩
  obtain ⟨tx, s4, e4, hq4⟩ : ∃ v s' e', q4 s = (v, s', e') := ⟨_, _, _, rfl⟩
  have H4 : Aside0 (inText s3 e3 = (tx, s4, e4)) := ⟨by have h := hq4; unfold q4 at h; rw [hq3] at h; exact h⟩
  obtain ⟨ts, s5, e5, hq5⟩ : ∃ v s' e', q5 s = (v, s', e') := ⟨_, _, _, rfl⟩
  have H5 : Aside0 (inTexts s4 e4 4096 = (ts, s5, e5)) := ⟨by have h := hq5; unfold q5 at h; rw [hq4] at h; exact h⟩
  obtain ⟨l, s6, e6, hq6⟩ : ∃ v s' e', q6 s = (v, s', e') := ⟨_, _, _, rfl⟩
  have H6 : Aside0 (inTexts s5 e5 4096 = (l, s6, e6)) := ⟨by have h := hq6; unfold q6 at h; rw [hq5] at h; exact h⟩
  have HQ : Aside0 ((q0 s).1 = code ∧ (q6 s).1 = l ∧ (q6 s).2.1 = s6 ∧ (q6 s).2.2 = e6 ∧ ((q1 s).1 = line ∧ (q2 s).1 = col ∧ (q3 s).1 = cnt ∧ (q4 s).1 = tx ∧ (q5 s).1 = ts)) := ⟨by rw [hq0], by rw [hq6], by rw [hq6], by rw [hq6], by rw [hq1], by rw [hq2], by rw [hq3], by rw [hq4], by rw [hq5]⟩
  clear hq0 hq1 hq2 hq3 hq4 hq5 hq6
  go_enter Try.func21, Try.ntmps21
  go_wp2_with fail
  have hn := heap_alloc_new w (.cells #[.int .i64 0, .int .i64 0, .int .i64 0, .int .i64 0, .string ⟨#[]⟩, .slice none 0 0, .slice none 0 0] 44)
  have hb0 := below_alloc (Below.refl w.heap.size w) (.cells #[.int .i64 0, .int .i64 0, .int .i64 0, .int .i64 0, .string ⟨#[]⟩, .slice none 0 0, .slice none 0 0] 44)
  refine (octets_Open.calls s s 0 w _ hb0 rfl).mono ?_
  rintro e w2 ⟨gi, rfl, hi2, hb2, hbb⟩
  have hr2 := (hbb.block w.heap.size (blk_lt hn)).trans hn
  have hne : w.heap.size ≠ gi := blk_ne hr2 hi2.1 (by decide)
  go_wp2_with fail
  (with_reducible refine (octets_In_Int.calls gi s 0 code s0 e0 w _ hi2 hb2 (by rw [In_Int_eq, H0.out])).mono ?_)
  rintro e wv0 ⟨rfl, hi, hb, hk⟩
  have hr3 := (hk.2 w.heap.size (blk_lt hr2) hne (by simp)).trans hr2
  have hlt := blk_lt hi.1
  have hlr := blk_lt hr3
  have hn3 := heap_alloc_new wv0 (.cells #[.int .i64 code, .int .i64 0, .int .i64 0, .int .i64 0, .string ⟨#[]⟩, .slice none 0 0, .slice none 0 0] 44)
  have hb3 := below_alloc (Below.refl wv0.heap.size wv0) (.cells #[.int .i64 code, .int .i64 0, .int .i64 0, .int .i64 0, .string ⟨#[]⟩, .slice none 0 0, .slice none 0 0] 44)
  obtain ⟨gc, hgc⟩ : ∃ gc, wv0.heap.size = gc := ⟨_, rfl⟩
  have G0 : Aside0 (GetSt w (wv0.alloc (.cells #[.int .i64 code, .int .i64 0, .int .i64 0, .int .i64 0, .string ⟨#[]⟩, .slice none 0 0, .slice none 0 0] 44)) w.heap.size gi gc 44 153 s0 e0 #[.int .i64 code, .int .i64 0, .int .i64 0, .int .i64 0, .string ⟨#[]⟩, .slice none 0 0, .slice none 0 0] #[.int .i64 0, .int .i64 0, .int .i64 0, .int .i64 0, .string ⟨#[]⟩, .slice none 0 0, .slice none 0 0]) :=
    ⟨⟨(hb3.block _ hlt).trans hi.1, by rw [← hgc]; exact hn3, (hb3.block _ hlr).trans hr3, below_then hb hb.size hb3, Nat.le_refl _, hi.2, by rw [← hgc]; exact hb.size, by omega, hne, by omega⟩⟩
  clear hi2 hb2 hbb
  clear hn hb0 hi hb hk hr2 hr3 hne hlt hlr hn3 hb3
  go_wp2_with fail

  clear hgc
  have G := G0
  clear G0
  (with_reducible refine (octets_In_Int.calls gi s0 e0 line s1 e1 w _ G.out.isIn G.out.b (by rw [In_Int_eq, H1.out])).mono ?_)
  rintro e wv1 ⟨rfl, hi, hb, hk⟩
  have G' := Aside0.mk (G.out.call hi.1 hb hk)
  have hz : wv1.cell? ⟨gc, 1, none⟩ = some (.int .i64 0) := (blk_cell G'.out.c 1).trans rfl
  have hf : wv1.frozen? ⟨gc, 1, none⟩ = false := blk_frozen G'.out.c 1
  have G'' : Aside0 (GetSt w (wv1.setCell ⟨gc, 1, none⟩ (.int .i64 line)) w.heap.size gi gc 44 153 s1 e1 #[.int .i64 code, .int .i64 line, .int .i64 0, .int .i64 0, .string ⟨#[]⟩, .slice none 0 0, .slice none 0 0] #[.int .i64 0, .int .i64 0, .int .i64 0, .int .i64 0, .string ⟨#[]⟩, .slice none 0 0, .slice none 0 0]) := ⟨G'.out.store 1 (.int .i64 line)⟩
  clear hi hb hk G
  have G := G''
  clear G'' G'
  go_wp2_with fail
  clear hz hf
  (with_reducible refine (octets_In_Int.calls gi s1 e1 col s2 e2 w _ G.out.isIn G.out.b (by rw [In_Int_eq, H2.out])).mono ?_)
  rintro e wv2 ⟨rfl, hi, hb, hk⟩
  have G' := Aside0.mk (G.out.call hi.1 hb hk)
  have hz : wv2.cell? ⟨gc, 2, none⟩ = some (.int .i64 0) := (blk_cell G'.out.c 2).trans rfl
  have hf : wv2.frozen? ⟨gc, 2, none⟩ = false := blk_frozen G'.out.c 2
  have G'' : Aside0 (GetSt w (wv2.setCell ⟨gc, 2, none⟩ (.int .i64 col)) w.heap.size gi gc 44 153 s2 e2 #[.int .i64 code, .int .i64 line, .int .i64 col, .int .i64 0, .string ⟨#[]⟩, .slice none 0 0, .slice none 0 0] #[.int .i64 0, .int .i64 0, .int .i64 0, .int .i64 0, .string ⟨#[]⟩, .slice none 0 0, .slice none 0 0]) := ⟨G'.out.store 2 (.int .i64 col)⟩
  clear hi hb hk G
  have G := G''
  clear G'' G'
  go_wp2_with fail
  clear hz hf
  (with_reducible refine (octets_In_Int.calls gi s2 e2 cnt s3 e3 w _ G.out.isIn G.out.b (by rw [In_Int_eq, H3.out])).mono ?_)
  rintro e wv3 ⟨rfl, hi, hb, hk⟩
  have G' := Aside0.mk (G.out.call hi.1 hb hk)
  have hz : wv3.cell? ⟨gc, 3, none⟩ = some (.int .i64 0) := (blk_cell G'.out.c 3).trans rfl
  have hf : wv3.frozen? ⟨gc, 3, none⟩ = false := blk_frozen G'.out.c 3
  have G'' : Aside0 (GetSt w (wv3.setCell ⟨gc, 3, none⟩ (.int .i64 cnt)) w.heap.size gi gc 44 153 s3 e3 #[.int .i64 code, .int .i64 line, .int .i64 col, .int .i64 cnt, .string ⟨#[]⟩, .slice none 0 0, .slice none 0 0] #[.int .i64 0, .int .i64 0, .int .i64 0, .int .i64 0, .string ⟨#[]⟩, .slice none 0 0, .slice none 0 0]) := ⟨G'.out.store 3 (.int .i64 cnt)⟩
  clear hi hb hk G
  have G := G''
  clear G'' G'
  go_wp2_with fail
  clear hz hf
  (with_reducible refine (octets_In_Text.calls 1 gi s3 e3 tx s4 e4 w _ G.out.isIn G.out.b (by rw [In_Text_eq s3 e3 1 (by omega), H4.out])).mono ?_)
  rintro e wv4 ⟨rfl, hi, hb, hk⟩
  have G' := Aside0.mk (G.out.call hi.1 hb hk)
  have hz : wv4.cell? ⟨gc, 4, none⟩ = some (.string ⟨#[]⟩) := (blk_cell G'.out.c 4).trans rfl
  have hf : wv4.frozen? ⟨gc, 4, none⟩ = false := blk_frozen G'.out.c 4
  have G'' : Aside0 (GetSt w (wv4.setCell ⟨gc, 4, none⟩ (.string tx)) w.heap.size gi gc 44 153 s4 e4 #[.int .i64 code, .int .i64 line, .int .i64 col, .int .i64 cnt, .string tx, .slice none 0 0, .slice none 0 0] #[.int .i64 0, .int .i64 0, .int .i64 0, .int .i64 0, .string ⟨#[]⟩, .slice none 0 0, .slice none 0 0]) := ⟨G'.out.store 4 (.string tx)⟩
  clear hi hb hk G
  have G := G''
  clear G'' G'
  go_wp2_with fail
  clear hz hf
  (with_reducible refine (octets_In_Texts.calls 65539 gi s4 e4 4096 ts s5 e5 w _ G.out.isIn G.out.b (by rw [In_Texts_eq s4 e4 4096 65539 (by omega), H5.out])).mono ?_)
  rintro e wv5 ⟨v0, rfl, hR, hi, hb, hk⟩
  obtain ⟨A, cap, ha, hcap, _⟩ := Kd.R_reads hR
  subst ha
  have hO : ∃ bb, wv5.ownsRow bb 9 1 (.slice A ts.length cap) ts.length (encs Value.string ts) := ⟨_, Kd.own_of_R hR⟩
  obtain ⟨b5, hO⟩ := hO
  have G' := Aside0.mk (G.out.call hi.1 hb hk)
  have hz : wv5.cell? ⟨gc, 5, none⟩ = some (.slice none 0 0) := (blk_cell G'.out.c 5).trans rfl
  have hf : wv5.frozen? ⟨gc, 5, none⟩ = false := blk_frozen G'.out.c 5
  have G'' : Aside0 (GetSt w (wv5.setCell ⟨gc, 5, none⟩ (.slice A ts.length cap)) w.heap.size gi gc 44 153 s5 e5 #[.int .i64 code, .int .i64 line, .int .i64 col, .int .i64 cnt, .string tx, .slice A ts.length cap, .slice none 0 0] #[.int .i64 0, .int .i64 0, .int .i64 0, .int .i64 0, .string ⟨#[]⟩, .slice none 0 0, .slice none 0 0]) := ⟨G'.out.store 5 (.slice A ts.length cap)⟩
  have HT := Aside0.mk (own_same hO (SameT.set_ G'.out.c (by decide) 5 (.slice A ts.length cap)))
  clear hi hb hk G hR hO
  have G := G''
  clear G'' G'
  go_wp2_with fail
  clear hz hf
  (with_reducible refine (octets_In_Texts.calls 65539 gi s5 e5 4096 l s6 e6 w _ G.out.isIn G.out.b (by rw [In_Texts_eq s5 e5 4096 65539 (by omega), H6.out])).mono ?_)
  rintro e wv6 ⟨v0, rfl, hR, hi, hb, hk⟩
  obtain ⟨B, capl, ha, hcapl, _⟩ := Kd.R_reads hR
  subst ha
  have hO : ∃ bb, wv6.ownsRow bb 9 1 (.slice B l.length capl) l.length (encs Value.string l) := ⟨_, Kd.own_of_R hR⟩
  obtain ⟨b6, hO⟩ := hO
  have HT6 := Aside0.mk (own_same HT.out (SameT.keep hk G.out.i (by decide)))
  have HL6 := Aside0.mk hO
  have G' := Aside0.mk (G.out.call hi.1 hb hk)
  clear hi hb hk G hR hO HT
  have G := G'
  clear G'
  have zr0 : wv6.cell? ⟨w.heap.size, 0, none⟩ = some (.int .i64 0) := (blk_cell G.out.r 0).trans rfl
  have fr0 : wv6.frozen? ⟨w.heap.size, 0, none⟩ = false := blk_frozen G.out.r 0
  have zr1 : wv6.cell? ⟨w.heap.size, 1, none⟩ = some (.int .i64 0) := (blk_cell G.out.r 1).trans rfl
  have fr1 : wv6.frozen? ⟨w.heap.size, 1, none⟩ = false := blk_frozen G.out.r 1
  have zr2 : wv6.cell? ⟨w.heap.size, 2, none⟩ = some (.int .i64 0) := (blk_cell G.out.r 2).trans rfl
  have fr2 : wv6.frozen? ⟨w.heap.size, 2, none⟩ = false := blk_frozen G.out.r 2
  have zr3 : wv6.cell? ⟨w.heap.size, 3, none⟩ = some (.int .i64 0) := (blk_cell G.out.r 3).trans rfl
  have fr3 : wv6.frozen? ⟨w.heap.size, 3, none⟩ = false := blk_frozen G.out.r 3
  have zr4 : wv6.cell? ⟨w.heap.size, 4, none⟩ = some (.string ⟨#[]⟩) := (blk_cell G.out.r 4).trans rfl
  have fr4 : wv6.frozen? ⟨w.heap.size, 4, none⟩ = false := blk_frozen G.out.r 4
  have zr5 : wv6.cell? ⟨w.heap.size, 5, none⟩ = some (.slice none 0 0) := (blk_cell G.out.r 5).trans rfl
  have fr5 : wv6.frozen? ⟨w.heap.size, 5, none⟩ = false := blk_frozen G.out.r 5
  have zr6 : wv6.cell? ⟨w.heap.size, 6, none⟩ = some (.slice none 0 0) := (blk_cell G.out.r 6).trans rfl
  have fr6 : wv6.frozen? ⟨w.heap.size, 6, none⟩ = false := blk_frozen G.out.r 6


  by_cases he : e6 = 0
  rotate_left
  · have he2 : (e6 != 0) = true := by rw [bne_iff_ne]; exact he
    have he3 : (e6 == 0) = false := by rw [beq_eq_false_iff_ne]; exact he
    have HTT : Aside0 (getR s = (zeroR, e6)) := ⟨by unfold getR; rw [HQ.out.2.2.2.1]; exact if_pos he⟩
    go_wp2_with (go_at_call 56; refine (err_quiet gi s6 e6 _ G.out.i).mono ?_; rintro e w' ⟨rfl, rfl⟩)
    (try simp only [Exit.inBlock, Exit.then])
    refine bodyPost_ret (results_ct rfl _ _ w.heap.size 44 #[.int .i64 0, .int .i64 0, .int .i64 0, .int .i64 0, .string ⟨#[]⟩, .slice none 0 0, .slice none 0 0] (0, 0) _ rfl (put7 G.out.r _ _ _ _ _ _ _) Try.underlying44 rfl (by kernel_rfl)) rfl ?_
    exact toldR_z HTT.out (put7_below G.out.b (Nat.le_refl _) _ _ _ _ _ _ _)
  subst he
  by_cases hc0 : code < 0
  · have d1 : decide (code < 0) = true := by simp; omega
    have HTT : Aside0 (getR s = (zeroR, 2)) := ⟨by unfold getR; rw [HQ.out.2.2.2.1, HQ.out.1, if_neg (by simp), if_pos (.inl hc0)]⟩
    clear hc0
    go_wp2_with (go_at_call 56; refine (err_quiet gi s6 0 _ G.out.i).mono ?_; rintro e w' ⟨rfl, rfl⟩)
    (try simp only [Exit.inBlock, Exit.then])
    refine bodyPost_ret (results_ct rfl _ _ w.heap.size 44 #[.int .i64 0, .int .i64 0, .int .i64 0, .int .i64 0, .string ⟨#[]⟩, .slice none 0 0, .slice none 0 0] (0, 0) _ rfl (put7 G.out.r _ _ _ _ _ _ _) Try.underlying44 rfl (by kernel_rfl)) rfl ?_
    exact toldR_z HTT.out (put7_below G.out.b (Nat.le_refl _) _ _ _ _ _ _ _)
  have d1 : decide (code < 0) = false := by simp; omega
  by_cases hc1 : 20 < code
  · have d2 : decide (20 < code) = true := by simp; omega
    have HTT : Aside0 (getR s = (zeroR, 2)) := ⟨by unfold getR; rw [HQ.out.2.2.2.1, HQ.out.1, if_neg (by simp), if_pos (.inr hc1)]⟩
    clear hc0 hc1
    go_wp2_with (go_at_call 56; refine (err_quiet gi s6 0 _ G.out.i).mono ?_; rintro e w' ⟨rfl, rfl⟩)
    (try simp only [Exit.inBlock, Exit.then])
    refine bodyPost_ret (results_ct rfl _ _ w.heap.size 44 #[.int .i64 0, .int .i64 0, .int .i64 0, .int .i64 0, .string ⟨#[]⟩, .slice none 0 0, .slice none 0 0] (0, 0) _ rfl (put7 G.out.r _ _ _ _ _ _ _) Try.underlying44 rfl (by kernel_rfl)) rfl ?_
    exact toldR_z HTT.out (put7_below G.out.b (Nat.le_refl _) _ _ _ _ _ _ _)
  have d2 : decide (20 < code) = false := by simp; omega
  have HGR : Aside0 (getR s = if badMs l then (zeroR, 2) else if s6.size = 0 then (⟨code, line, col, cnt, tx, ts, valMs l⟩, 0) else (zeroR, 4)) := ⟨by
    unfold getR; rw [HQ.out.2.2.2.1, HQ.out.1, HQ.out.2.1, HQ.out.2.2.1, HQ.out.2.2.2.2.1, HQ.out.2.2.2.2.2.1, HQ.out.2.2.2.2.2.2.1, HQ.out.2.2.2.2.2.2.2.1, HQ.out.2.2.2.2.2.2.2.2, if_neg (by simp), if_neg (by omega)]⟩
  have LL : Aside0 (l.length ≤ 65536) := ⟨by have h := inSeq_len (fun s => inText s 0) s5 e5 4096; have h6 := H6.out; unfold inTexts at h6; rw [h6] at h; exact h⟩
  clear hc0 hc1
  go_wp2_with (go_at_call 56; refine (err_quiet gi s6 0 _ G.out.i).mono ?_; rintro e w' ⟨rfl, rfl⟩)
  clear zr0 fr0 zr1 fr1 zr2 fr2 zr3 fr3 zr4 fr4 zr5 fr5 zr6 fr6 
  go_loopw [52] (fun i wr => ∃ j : Nat, j ≤ l.length ∧ i = .int .i64 j ∧ Aside0 (badMs (l.take j) = false) ∧ ∃ M capm, Aside0 (GetSt w (wr) w.heap.size gi gc 44 153 s6 0 #[.int .i64 code, .int .i64 line, .int .i64 col, .int .i64 cnt, .string tx, .slice A ts.length cap, .slice M j capm] #[.int .i64 0, .int .i64 0, .int .i64 0, .int .i64 0, .string ⟨#[]⟩, .slice none 0 0, .slice none 0 0]) ∧ Aside0 (wr.ownsRow w.heap.size 120 1 (.slice M j capm) j (encs (Value.float .f64) (valMs (l.take j)))) ∧ Aside0 (wr.ownsRow b5 9 1 (.slice A ts.length cap) ts.length (encs Value.string ts)) ∧ Aside0 (wr.ownsRow b6 9 1 (.slice B l.length capl) l.length (encs Value.string l))) (fun i _ => l.length - (intOf i).toNat)
  case atStart => exact ⟨0, Nat.zero_le _, rfl, ⟨rfl⟩, none, 0, ⟨G.out⟩, ⟨own_nil _ _ _ _⟩, HT6, HL6⟩
  case round =>
    obtain ⟨j, hj, rfl, HBM, M, capm, HG, HF, HTS, HLS⟩ := hrel
    clear G HT6 HL6
    have G := HG
    clear HG
    have zr0 : wr.cell? ⟨w.heap.size, 0, none⟩ = some (.int .i64 0) := (blk_cell G.out.r 0).trans rfl
    have fr0 : wr.frozen? ⟨w.heap.size, 0, none⟩ = false := blk_frozen G.out.r 0
    have zr1 : wr.cell? ⟨w.heap.size, 1, none⟩ = some (.int .i64 0) := (blk_cell G.out.r 1).trans rfl
    have fr1 : wr.frozen? ⟨w.heap.size, 1, none⟩ = false := blk_frozen G.out.r 1
    have zr2 : wr.cell? ⟨w.heap.size, 2, none⟩ = some (.int .i64 0) := (blk_cell G.out.r 2).trans rfl
    have fr2 : wr.frozen? ⟨w.heap.size, 2, none⟩ = false := blk_frozen G.out.r 2
    have zr3 : wr.cell? ⟨w.heap.size, 3, none⟩ = some (.int .i64 0) := (blk_cell G.out.r 3).trans rfl
    have fr3 : wr.frozen? ⟨w.heap.size, 3, none⟩ = false := blk_frozen G.out.r 3
    have zr4 : wr.cell? ⟨w.heap.size, 4, none⟩ = some (.string ⟨#[]⟩) := (blk_cell G.out.r 4).trans rfl
    have fr4 : wr.frozen? ⟨w.heap.size, 4, none⟩ = false := blk_frozen G.out.r 4
    have zr5 : wr.cell? ⟨w.heap.size, 5, none⟩ = some (.slice none 0 0) := (blk_cell G.out.r 5).trans rfl
    have fr5 : wr.frozen? ⟨w.heap.size, 5, none⟩ = false := blk_frozen G.out.r 5
    have zr6 : wr.cell? ⟨w.heap.size, 6, none⟩ = some (.slice none 0 0) := (blk_cell G.out.r 6).trans rfl
    have fr6 : wr.frozen? ⟨w.heap.size, 6, none⟩ = false := blk_frozen G.out.r 6
    have zc6 : wr.cell? ⟨gc, 6, none⟩ = some (.slice M j capm) := (blk_cell G.out.c 6).trans rfl
    have fc6 : wr.frozen? ⟨gc, 6, none⟩ = false := blk_frozen G.out.c 6
    have hmx := (own_C HLS.out).1.2.1
    by_cases hjn : j < l.length
    · obtain ⟨ad, rfl, hcell⟩ := C_str (own_C HLS.out).1 j hjn
      have hd : decide ((j : Int) < (l.length : Int)) = true := by simp; omega
      obtain ⟨x, hxx⟩ : ∃ x, l[j] = x := ⟨_, rfl⟩
      rw [hxx] at hcell
      have HTK := Aside0.mk (show l.take (j + 1) = l.take j ++ [x] from by rw [List.take_succ_eq_append_getElem hjn, hxx])
      have HJL := Aside0.mk (show (valMs (l.take j)).length = j from by unfold valMs; rw [List.length_map, List.length_take]; omega)
      have HL1 : ∀ n : Nat, Aside0 ((valMs (l.take j) ++ [n]).length = j + 1) := fun n => ⟨by rw [List.length_append, HJL.out]; rfl⟩
      have HMEM := Aside0.mk (show x ∈ l from by rw [← hxx]; exact List.getElem_mem hjn)
      clear hxx
      obtain ⟨n, em, hgm⟩ : ∃ n em, getM x = (n, em) := ⟨_, _, rfl⟩
      have HGM := Aside0.mk hgm
      have HL1 := HL1 n
      clear hgm
      by_cases h0 : em = 0
      · subst h0
        go_wp2_with fail
        (with_reducible refine (mget_calls x _).mono ?_)
        rintro e w4 ⟨rfl, rfl⟩
        rw [HGM.out]
        go_wp2_with (at_builtin; (refine print_append_of (w0 := w) (Value.float .f64) w.heap.size rfl (.tmp 65) (.tmp 67) 42 120 (.float .f64 0) 8 rfl Try.underlying42 info120 rfl (by decide) _ (valMs (l.take j)) n rfl rfl rfl (own_len HF.out HJL.out.symm) G.out.b G.out.b.size (by have := HJL.out; have := LL.out; omega) ?_); intro v5' w5 ho hbl hg _; rw [HL1.out] at ho; obtain ⟨M2, capm2, rfl, _⟩ := own_reads_of (d := (0 : Nat)) ho; have SC := Aside0.mk (SameT.grown hg HF.out (show 44 ≠ 120 from by decide)); have SI := Aside0.mk (SameT.grown hg HF.out (show 153 ≠ 120 from by decide)); have SS := Aside0.mk (SameT.grown hg HF.out (show 9 ≠ 120 from by decide)); have G5 := Aside0.mk (G.out.moved SC.out SI.out hbl); have HF5 := Aside0.mk ho; have HT5 := Aside0.mk (own_same HTS.out SS.out); have HL5 := Aside0.mk (own_same HLS.out SS.out); clear ho hbl hg SC SI SS zc6 fc6; have zc6 : w5.cell? ⟨gc, 6, none⟩ = some (.slice M j capm) := (blk_cell G5.out.c 6).trans rfl; have fc6 : w5.frozen? ⟨gc, 6, none⟩ = false := blk_frozen G5.out.c 6)
        go_roundw
        case rel =>
          have hval : valMs (l.take (j + 1)) = valMs (l.take j) ++ [n] := by rw [HTK.out]; unfold valMs; rw [List.map_append, List.map_cons, List.map_nil, HGM.out]
          have hbad : badMs (l.take (j + 1)) = false := by
            rw [HTK.out]
            have h := HBM.out
            unfold badMs at h ⊢
            rw [List.any_append, h]
            simp [HGM.out]
          refine ⟨j + 1, by omega, by go_num, ⟨hbad⟩, M2, capm2, ?_, ?_, ?_, ?_⟩
          · exact ⟨G5.out.store 6 (.slice M2 (j + 1) capm2)⟩
          · rw [hval]; exact ⟨own_same HF5.out (SameT.set_ G5.out.c (by decide) 6 _)⟩
          · exact ⟨own_same HT5.out (SameT.set_ G5.out.c (by decide) 6 _)⟩
          · exact ⟨own_same HL5.out (SameT.set_ G5.out.c (by decide) 6 _)⟩
        case measure => simp [intOf]; omega
      · have h1 : (em != 0) = true := by rw [bne_iff_ne]; exact h0
        have h2 : (em == 0) = false := by rw [beq_eq_false_iff_ne]; exact h0
        have HTT : Aside0 (getR s = (zeroR, 2)) := ⟨by
          rw [HGR.out, if_pos]
          unfold badMs
          rw [List.any_eq_true]
          exact ⟨x, HMEM.out, by rw [HGM.out]; simp [h0]⟩⟩
        clear h0
        go_wp2_with fail
        (with_reducible refine (mget_calls x _).mono ?_)
        rintro e w4 ⟨rfl, rfl⟩
        rw [HGM.out]
        go_wp2
        (try simp only [Exit.inBlock, Exit.then])
        refine bodyPost_ret (results_ct rfl _ _ w.heap.size 44 #[.int .i64 0, .int .i64 0, .int .i64 0, .int .i64 0, .string ⟨#[]⟩, .slice none 0 0, .slice none 0 0] (0, 0) _ rfl (put7 G.out.r _ _ _ _ _ _ _) Try.underlying44 rfl (by kernel_rfl)) rfl ?_
        exact toldR_z HTT.out (put7_below G.out.b (Nat.le_refl _) _ _ _ _ _ _ _)
    · obtain rfl : l.length = j := by omega
      have hd : decide ((l.length : Int) < (l.length : Int)) = false := by simp
      have hbm := HBM.out
      have hf := HF.out
      rw [List.take_length] at hbm hf
      have HBF := Aside0.mk hbm
      have HF2 := Aside0.mk hf
      have HVL := Aside0.mk (show (valMs l).length = l.length from by unfold valMs; rw [List.length_map])
      clear hbm hf HBM HF hjn
      have zc0 : wr.cell? ⟨gc, 0, none⟩ = some (.int .i64 code) := (blk_cell G.out.c 0).trans rfl
      have zc1 : wr.cell? ⟨gc, 1, none⟩ = some (.int .i64 line) := (blk_cell G.out.c 1).trans rfl
      have zc2 : wr.cell? ⟨gc, 2, none⟩ = some (.int .i64 col) := (blk_cell G.out.c 2).trans rfl
      have zc3 : wr.cell? ⟨gc, 3, none⟩ = some (.int .i64 cnt) := (blk_cell G.out.c 3).trans rfl
      have zc4 : wr.cell? ⟨gc, 4, none⟩ = some (.string tx) := (blk_cell G.out.c 4).trans rfl
      have zc5 : wr.cell? ⟨gc, 5, none⟩ = some (.slice A ts.length cap) := (blk_cell G.out.c 5).trans rfl
      have zc6 : wr.cell? ⟨gc, 6, none⟩ = some (.slice M l.length capm) := (blk_cell G.out.c 6).trans rfl

      by_cases hz6 : s6.size = 0
      · have HTT : Aside0 (getR s = (⟨code, line, col, cnt, tx, ts, valMs l⟩, 0)) := ⟨by rw [HGR.out, HBF.out, if_neg (by simp), if_pos hz6]⟩
        have HEN : Aside0 (inEnd s6 0 = 0) := ⟨by unfold inEnd; rw [if_pos rfl, if_pos hz6]⟩
        have m1 : (s6.toList == ([] : List UInt8)) = true := by rw [beq_iff_eq]; exact (toList_nil_iff s6).mpr hz6
        have m2 : s6.toList.isEmpty = true := by rw [(toList_nil_iff s6).mpr hz6]; rfl
        clear hz6
        go_wp2_with (go_at_call 57; refine (end_quiet gi s6 0 _ G.out.i).mono ?_; rintro e w' ⟨rfl, rfl⟩; rw [HEN.out])
        (try simp only [Exit.inBlock, Exit.then])
        refine bodyPost_ret (results_ct rfl _ _ w.heap.size 44 #[.int .i64 code, .int .i64 line, .int .i64 col, .int .i64 cnt, .string tx, .slice A ts.length cap, .slice M l.length capm] (0, 0) _ rfl (put7 G.out.r _ _ _ _ _ _ _) Try.underlying44 rfl (by kernel_rfl)) rfl ?_
        exact toldR_ok HTT.out HVL.out (own_same HTS.out (put7_same G.out.r (by decide) _ _ _ _ _ _ _)) (own_same HF2.out (put7_same G.out.r (by decide) _ _ _ _ _ _ _)) (put7_below G.out.b (Nat.le_refl _) _ _ _ _ _ _ _)
      · have HTT : Aside0 (getR s = (zeroR, 4)) := ⟨by rw [HGR.out, HBF.out, if_neg (by simp), if_neg hz6]⟩
        have HEN : Aside0 (inEnd s6 0 = 4) := ⟨by unfold inEnd; rw [if_pos rfl, if_neg hz6]⟩
        have m1 : (s6.toList == ([] : List UInt8)) = false := by rw [beq_eq_false_iff_ne]; exact fun h => hz6 ((toList_nil_iff s6).mp h)
        have m2 : s6.toList.isEmpty = false := isEmpty_false hz6
        clear hz6
        go_wp2_with (go_at_call 57; refine (end_quiet gi s6 0 _ G.out.i).mono ?_; rintro e w' ⟨rfl, rfl⟩; rw [HEN.out])
        (try simp only [Exit.inBlock, Exit.then])
        refine bodyPost_ret (results_ct rfl _ _ w.heap.size 44 #[.int .i64 0, .int .i64 0, .int .i64 0, .int .i64 0, .string ⟨#[]⟩, .slice none 0 0, .slice none 0 0] (0, 0) _ rfl (put7 G.out.r _ _ _ _ _ _ _) Try.underlying44 rfl (by kernel_rfl)) rfl ?_
        exact toldR_z HTT.out (put7_below G.out.b (Nat.le_refl _) _ _ _ _ _ _ _)
end Go.Proofs.Ytnajmemcdipknaa.PK
namespace Go.Proofs.Ytnajmemcdipknaa.PK
open Go.RowKit Go.Proofs.YtnajmemcdipknaaW.PrintWords Go.Proofs.YtnajmemcdipknaaW.PrintLast Go.Proofs.YtnajmemcdipknaaW.PrintMore
open Go.ChangeShapes Go.WideShapes
set_option linter.unusedVariables false
set_option linter.unusedSimpArgs false
set_option maxRecDepth 100000
theorem rdOf_get (xs : List ByteArray) (i : Nat) (h : i < xs.length) : rdOf ByteArray.empty xs (i : Int) = xs[i] := by
  unfold rdOf
  rw [Int.toNat_natCast, List.getD_eq_getElem?_getD, List.getElem?_eq_getElem h]
  rfl
theorem texts21_l0 (xs ys : List ByteArray) (hl : xs.length = ys.length) (hb : xs.length ≤ 9223372036854775807) (r : Nat) : ∀ (k i : Nat), i + r = xs.length → r < k → PC.primerlaw21_texts.l0 k xs ys i = some (decide (xs.drop i = ys.drop i)) := by
  induction r with
  | zero =>
    intro k i h1 hk
    obtain ⟨k, rfl⟩ : ∃ j, k = j + 1 := ⟨k - 1, by omega⟩
    simp only [PC.primerlaw21_texts.l0]
    rw [if_neg (by omega), List.drop_of_length_le (by omega), List.drop_of_length_le (by omega)]
    simp
  | succ r ih =>
    intro k i h1 hk
    obtain ⟨k, rfl⟩ : ∃ j, k = j + 1 := ⟨k - 1, by omega⟩
    simp only [PC.primerlaw21_texts.l0]
    rw [if_pos (by omega), if_pos (by omega), if_pos (by omega), rdOf_get xs i (by omega), rdOf_get ys i (by omega), w64 _ (by omega) (by omega), List.drop_eq_getElem_cons (show i < xs.length by omega), List.drop_eq_getElem_cons (show i < ys.length by omega)]
    by_cases h : xs[i]'(by omega) = ys[i]'(by omega)
    · rw [if_pos ((toList_iff _ _).mpr h), show ((i : Int) + 1) = ((i + 1 : Nat) : Int) from rfl, ih k (i + 1) (by omega) (by omega), h, Option.some.injEq, decide_eq_decide, List.cons.injEq, eq_self_iff_true, true_and]
    · rw [if_neg (fun e => h ((toList_iff _ _).mp e)), Option.some.injEq, eq_comm, decide_eq_false_iff_not]
      exact fun e => h (List.cons.inj e).1
theorem texts21_eq (xs ys : List ByteArray) (hb : xs.length ≤ 9223372036854775807) (k : Nat) (hk : xs.length < k) : PC.primerlaw21_texts.f k xs ys = some (decide (xs = ys)) := by
  unfold PC.primerlaw21_texts.f
  by_cases hl : xs.length = ys.length
  · rw [if_pos (by omega)]
    have := texts21_l0 xs ys hl hb xs.length k 0 (by omega) hk
    rw [show ((0 : Nat) : Int) = 0 from rfl, List.drop_zero, List.drop_zero] at this
    exact this
  · rw [if_neg (by omega)]
    have : ¬ xs = ys := fun h => hl (by rw [h])
    simp [this]
end Go.Proofs.Ytnajmemcdipknaa.PK
namespace Go.Proofs.Ytnajmemcdipknaa.PK
open Go.RowKit Go.Proofs.YtnajmemcdipknaaW.PrintWords Go.Proofs.YtnajmemcdipknaaW.PrintLast Go.Proofs.YtnajmemcdipknaaW.PrintMore
open Go.ChangeShapes Go.WideShapes
set_option linter.unusedVariables false
set_option linter.unusedSimpArgs false
set_option maxRecDepth 100000
def alikeV (x y : RepV) : Bool := (x.code == y.code) && (x.line == y.line) && (x.col == y.col) && (x.cnt == y.cnt) && decide (x.tx.toList = y.tx.toList) && decide (x.ts = y.ts) && decide (x.ms.map putM = y.ms.map putM)
theorem alikeV_refl (x : RepV) : alikeV x x = true := by simp [alikeV]
theorem four_cells {W W' : World} {a b c d : Addr} {u v x y : Value} (h : Below W.heap.size W W') (h1 : W.cell? a = some u) (h2 : W.cell? b = some v) (h3 : W.cell? c = some x) (h4 : W.cell? d = some y) : W'.cell? a = some u ∧ W'.cell? b = some v ∧ W'.cell? c = some x ∧ W'.cell? d = some y :=
  ⟨(h.cell (World.block_lt_of_cell? W _ h1)).trans h1, (h.cell (World.block_lt_of_cell? W _ h2)).trans h2, (h.cell (World.block_lt_of_cell? W _ h3)).trans h3, (h.cell (World.block_lt_of_cell? W _ h4)).trans h4⟩
set_option maxHeartbeats 6400000 in
theorem alike_calls (code line col cnt : Int) (tx : ByteArray) (A : Option Addr) (cap : Nat) (ts : List ByteArray) (M : Option Addr) (capm : Nat) (ms : List Nat) (code2 line2 col2 cnt2 : Int) (tx2 : ByteArray) (A2 : Option Addr) (cap2 : Nat) (ts2 : List ByteArray) (M2 : Option Addr) (capm2 : Nat) (ms2 : List Nat) (w : World)
    (hA : Kd.C Kd.string w A ts.length ts) (hca : ts.length ≤ cap) (hM : Kd.C kF w M ms.length ms) (hms : ∀ x ∈ ms, x < 18446744073709551616) (hB : Kd.C Kd.string w A2 ts2.length ts2) (hcb : ts2.length ≤ cap2) (hM2 : Kd.C kF w M2 ms2.length ms2) (hms2 : ∀ x ∈ ms2, x < 18446744073709551616) :
    Calls Try.prog 23 #[.agg #[.int .i64 code, .int .i64 line, .int .i64 col, .int .i64 cnt, .string tx, .slice A ts.length cap, .slice M ms.length capm], .agg #[.int .i64 code2, .int .i64 line2, .int .i64 col2, .int .i64 cnt2, .string tx2, .slice A2 ts2.length cap2, .slice M2 ms2.length capm2]] w fun e w' => e = .returned (.bool (alikeV ⟨code, line, col, cnt, tx, ts, ms⟩ ⟨code2, line2, col2, cnt2, tx2, ts2, ms2⟩)) ∧ Below w.heap.size w w' := by
  have hu := Try.underlying44
  have HM := Aside0.mk hA.2.1
  have HA := Aside0.mk hA
  have HCA := Aside0.mk hca
  have HB := Aside0.mk hB
  have HCB := Aside0.mk hcb
  have HMX := Aside0.mk hM
  have HMY := Aside0.mk hM2
  have HMS := Aside0.mk hms
  have HMS2 := Aside0.mk hms2
  clear hA hca hB hcb hM hM2 hms hms2
  have HW := Aside0.mk (below_alloc (below_alloc (Below.refl w.heap.size w) (.cells #[.int .i64 code, .int .i64 line, .int .i64 col, .int .i64 cnt, .string tx, .slice A ts.length cap, .slice M ms.length capm] 44)) (.cells #[.int .i64 code2, .int .i64 line2, .int .i64 col2, .int .i64 cnt2, .string tx2, .slice A2 ts2.length cap2, .slice M2 ms2.length capm2] 48))
  by_cases g0 : code = code2
  rotate_left
  · have e : (code != code2) = true := by rw [bne_iff_ne]; exact g0
    have HV : Aside0 (alikeV ⟨code, line, col, cnt, tx, ts, ms⟩ ⟨code2, line2, col2, cnt2, tx2, ts2, ms2⟩ = false) := ⟨by simp [alikeV, g0]⟩
    clear g0
    go_enter Try.func23, Try.ntmps23
    go_wp2
    go_ret
    exact ⟨by rw [HV.out]; rfl, HW.out⟩
  subst g0
  have q0 : (code != code) = false := by simp
  by_cases g1 : line = line2
  rotate_left
  · have e : (line != line2) = true := by rw [bne_iff_ne]; exact g1
    have HV : Aside0 (alikeV ⟨code, line, col, cnt, tx, ts, ms⟩ ⟨code, line2, col2, cnt2, tx2, ts2, ms2⟩ = false) := ⟨by simp [alikeV, g1]⟩
    clear g1
    go_enter Try.func23, Try.ntmps23
    go_wp2
    go_ret
    exact ⟨by rw [HV.out]; rfl, HW.out⟩
  subst g1
  have q1 : (line != line) = false := by simp
  by_cases g2 : col = col2
  rotate_left
  · have e : (col != col2) = true := by rw [bne_iff_ne]; exact g2
    have HV : Aside0 (alikeV ⟨code, line, col, cnt, tx, ts, ms⟩ ⟨code, line, col2, cnt2, tx2, ts2, ms2⟩ = false) := ⟨by simp [alikeV, g2]⟩
    clear g2
    go_enter Try.func23, Try.ntmps23
    go_wp2
    go_ret
    exact ⟨by rw [HV.out]; rfl, HW.out⟩
  subst g2
  have q2 : (col != col) = false := by simp
  by_cases g3 : cnt = cnt2
  rotate_left
  · have e : (cnt != cnt2) = true := by rw [bne_iff_ne]; exact g3
    have HV : Aside0 (alikeV ⟨code, line, col, cnt, tx, ts, ms⟩ ⟨code, line, col, cnt2, tx2, ts2, ms2⟩ = false) := ⟨by simp [alikeV, g3]⟩
    clear g3
    go_enter Try.func23, Try.ntmps23
    go_wp2
    go_ret
    exact ⟨by rw [HV.out]; rfl, HW.out⟩
  subst g3
  have q3 : (cnt != cnt) = false := by simp
  by_cases g4 : tx = tx2
  rotate_left
  · have e1 : (tx.toList == tx2.toList) = false := by rw [beq_eq_false_iff_ne, ne_eq, toList_iff]; exact g4
    have e2 : (tx.toList != tx2.toList) = true := by rw [bne_iff_ne, ne_eq, toList_iff]; exact g4
    have HV : Aside0 (alikeV ⟨code, line, col, cnt, tx, ts, ms⟩ ⟨code, line, col, cnt, tx2, ts2, ms2⟩ = false) := ⟨by simp [alikeV, toList_iff, g4]⟩
    clear g4
    go_enter Try.func23, Try.ntmps23
    go_wp2
    go_ret
    exact ⟨by rw [HV.out]; rfl, HW.out⟩
  subst g4
  have q4 : (tx.toList == tx.toList) = true := by simp
  have q5 : (tx.toList != tx.toList) = false := by simp
  by_cases g5 : ts = ts2
  rotate_left
  · have HT : Aside0 (PC.primerlaw21_texts.f (ts.length + 1) ts ts2 = some false) := ⟨by rw [texts21_eq ts ts2 HM.out _ (by omega)]; simp [g5]⟩
    have HV : Aside0 (alikeV ⟨code, line, col, cnt, tx, ts, ms⟩ ⟨code, line, col, cnt, tx, ts2, ms2⟩ = false) := ⟨by simp [alikeV, g5]⟩
    clear g5
    go_enter Try.func23, Try.ntmps23
    go_wp2_with (go_at_call 58; (with_reducible refine (PC.primerlaw21_texts.calls _ A cap ts A2 cap2 ts2 false _ (Kd.C_below HA.out HW.out) HCA.out (Kd.C_below HB.out HW.out) HCB.out HT.out).mono ?_); rintro e w' ⟨rfl, ⟨nd, rfl⟩⟩)
    go_ret
    exact ⟨by rw [HV.out]; rfl, pw_below_drewN HW.out _⟩
  subst g5
  have HT : Aside0 (PC.primerlaw21_texts.f (ts.length + 1) ts ts = some true) := ⟨by rw [texts21_eq ts ts HM.out _ (by omega)]; simp⟩
  by_cases g6 : ms.length = ms2.length
  rotate_left
  · have e : ((ms.length : Int) != (ms2.length : Int)) = true := by rw [bne_iff_ne]; omega
    have HV : Aside0 (alikeV ⟨code, line, col, cnt, tx, ts, ms⟩ ⟨code, line, col, cnt, tx, ts, ms2⟩ = false) := ⟨by
      have : ¬ (ms.map putM = ms2.map putM) := fun h => g6 (by have := congrArg List.length h; simpa using this)
      simp [alikeV, this]⟩
    clear g6
    go_enter Try.func23, Try.ntmps23
    go_wp2_with (go_at_call 58; (with_reducible refine (PC.primerlaw21_texts.calls _ A cap ts A2 cap2 ts true _ (Kd.C_below HA.out HW.out) HCA.out (Kd.C_below HB.out HW.out) HCB.out HT.out).mono ?_); rintro e w' ⟨rfl, ⟨nd, rfl⟩⟩)
    go_ret
    exact ⟨by rw [HV.out]; rfl, pw_below_drewN HW.out _⟩
  have e6 : ((ms.length : Int) != (ms2.length : Int)) = false := by rw [bne_eq_false_iff_eq]; omega
  have HL := Aside0.mk g6
  clear g6
  obtain ⟨xs, hxs⟩ : ∃ xs, ms.map putM = xs := ⟨_, rfl⟩
  obtain ⟨ys, hys⟩ : ∃ ys, ms2.map putM = ys := ⟨_, rfl⟩
  have HXS := Aside0.mk hxs
  have HYS := Aside0.mk hys
  have HV : Aside0 (alikeV ⟨code, line, col, cnt, tx, ts, ms⟩ ⟨code, line, col, cnt, tx, ts, ms2⟩ = decide (xs = ys)) := ⟨by rw [← hxs, ← hys]; simp [alikeV]⟩
  have hlx : xs.length = ms.length := by rw [← hxs, List.length_map]
  have hly : ys.length = ms.length := by rw [← hys, List.length_map, HL.out]
  have HLX := Aside0.mk hlx
  have HLY := Aside0.mk hly
  clear hxs hys hlx hly
  have HBX : Aside0 (((w.alloc (.cells #[.int .i64 code, .int .i64 line, .int .i64 col, .int .i64 cnt, .string tx, .slice A ts.length cap, .slice M ms.length capm] 44)).alloc (.cells #[.int .i64 code, .int .i64 line, .int .i64 col, .int .i64 cnt, .string tx, .slice A2 ts.length cap2, .slice M2 ms2.length capm2] 48)).heap[w.heap.size]? = some (.cells #[.int .i64 code, .int .i64 line, .int .i64 col, .int .i64 cnt, .string tx, .slice A ts.length cap, .slice M ms.length capm] 44 (0, 0))) := ⟨(heap_alloc_old _ _ (by simp)).trans (heap_new' rfl)⟩
  have HBY : Aside0 (((w.alloc (.cells #[.int .i64 code, .int .i64 line, .int .i64 col, .int .i64 cnt, .string tx, .slice A ts.length cap, .slice M ms.length capm] 44)).alloc (.cells #[.int .i64 code, .int .i64 line, .int .i64 col, .int .i64 cnt, .string tx, .slice A2 ts.length cap2, .slice M2 ms2.length capm2] 48)).heap[w.heap.size + 1]? = some (.cells #[.int .i64 code, .int .i64 line, .int .i64 col, .int .i64 cnt, .string tx, .slice A2 ts.length cap2, .slice M2 ms2.length capm2] 48 (0, 0))) := ⟨heap_new' (by simp)⟩
  go_enter Try.func23, Try.ntmps23
  go_wp2_with (go_at_call 58; (with_reducible refine (PC.primerlaw21_texts.calls _ A cap ts A2 cap2 ts true _ (Kd.C_below HA.out HW.out) HCA.out (Kd.C_below HB.out HW.out) HCB.out HT.out).mono ?_); rintro e w' ⟨rfl, ⟨nd, rfl⟩⟩)
  go_loopw [5] (fun i wr => ∃ j : Nat, j ≤ ms.length ∧ i = .int .i64 j ∧ Aside0 (xs.take j = ys.take j) ∧ Aside0 (Below ((w.alloc (.cells #[.int .i64 code, .int .i64 line, .int .i64 col, .int .i64 cnt, .string tx, .slice A ts.length cap, .slice M ms.length capm] 44)).alloc (.cells #[.int .i64 code, .int .i64 line, .int .i64 col, .int .i64 cnt, .string tx, .slice A2 ts.length cap2, .slice M2 ms2.length capm2] 48)).heap.size ((w.alloc (.cells #[.int .i64 code, .int .i64 line, .int .i64 col, .int .i64 cnt, .string tx, .slice A ts.length cap, .slice M ms.length capm] 44)).alloc (.cells #[.int .i64 code, .int .i64 line, .int .i64 col, .int .i64 cnt, .string tx, .slice A2 ts.length cap2, .slice M2 ms2.length capm2] 48)) wr)) (fun i _ => ms.length - (intOf i).toNat)
  case atStart => exact ⟨0, Nat.zero_le _, rfl, ⟨rfl⟩, ⟨by first | exact Below.refl _ _ | exact pw_below_drewN (Below.refl _ _) _⟩⟩
  case round =>
    obtain ⟨j, hj, rfl, HTK, HWR⟩ := hrel
    have hzx : wr.cell? ⟨w.heap.size, 6, none⟩ = some (.slice M ms.length capm) := (blk_cell ((HWR.out.block _ (blk_lt HBX.out)).trans HBX.out) 6).trans rfl
    have hzy : wr.cell? ⟨w.heap.size + 1, 6, none⟩ = some (.slice M2 ms2.length capm2) := (blk_cell ((HWR.out.block _ (blk_lt HBY.out)).trans HBY.out) 6).trans rfl
    by_cases hjn : j < ms.length
    · have hjn2 : j < ms2.length := by have := HL.out; omega
      obtain ⟨ad, hM, hcell⟩ := C_F (Kd.C_below (Kd.C_below HMX.out HW.out) HWR.out) j hjn
      obtain ⟨ad2, hM2, hcell2⟩ := C_F (Kd.C_below (Kd.C_below HMY.out HW.out) HWR.out) j hjn2
      have hd : decide ((j : Int) < (ms2.length : Int)) = true := by simp; omega
      have hp1 : (0 : Int) ≤ (j : Int) := by omega
      have hp2 : (j : Int) < (ms.length : Int) := by omega
      have hp3 : (j : Int) < (ms2.length : Int) := by omega
      have hmx1 := HMX.out.2.1
      have hmx2 := HMY.out.2.1
      have hx : ms[j] < 18446744073709551616 := HMS.out _ (List.getElem_mem hjn)
      have hy : ms2[j] < 18446744073709551616 := HMS2.out _ (List.getElem_mem hjn2)
      have hxj : xs[j]'(by have := HLX.out; omega) = putM ms[j] := by
        have h := HXS.out
        subst h
        simp
      have hyj : ys[j]'(by have := HLY.out; omega) = putM ms2[j] := by
        have h := HYS.out
        subst h
        simp
      obtain ⟨x, hxx⟩ : ∃ x, ms[j] = x := ⟨_, rfl⟩
      obtain ⟨y, hyy⟩ : ∃ y, ms2[j] = y := ⟨_, rfl⟩
      rw [hxx] at hx hcell hxj
      rw [hyy] at hy hcell2 hyj
      have HX := Aside0.mk hx
      have HY := Aside0.mk hy
      have HTX := Aside0.mk (show xs.take (j + 1) = xs.take j ++ [putM x] from by rw [List.take_succ_eq_append_getElem (by have := HLX.out; omega), hxj])
      have HTY := Aside0.mk (show ys.take (j + 1) = ys.take j ++ [putM y] from by rw [List.take_succ_eq_append_getElem (by have := HLY.out; omega), hyj])
      obtain ⟨SX, hSX⟩ : ∃ S, putM x = S := ⟨_, rfl⟩
      obtain ⟨SY, hSY⟩ : ∃ S, putM y = S := ⟨_, rfl⟩
      have HSX := Aside0.mk hSX
      have HSY := Aside0.mk hSY
      have HCX := Aside0.mk hcell
      have HCY := Aside0.mk hcell2
      have HZX := Aside0.mk hzx
      have HZY := Aside0.mk hzy
      subst hM; subst hM2
      clear hxx hyy hx hy hxj hyj hSX hSY
      have HWc := Aside0.mk (Below.refl wr.heap.size wr)
      by_cases hs : SX = SY
      · have ht1 : (SX.toList == SY.toList) = true := by rw [beq_iff_eq, toList_iff]; exact hs
        have ht2 : (SX.toList != SY.toList) = false := by rw [bne_eq_false_iff_eq, toList_iff]; exact hs
        have HEQ := Aside0.mk hs
        clear hs
        go_wp2_with fail
        go_region_held3 (fun w' => w'.cell? ⟨w.heap.size, 6, none⟩ = some (.slice (some ad) ms.length capm) ∧ w'.cell? ⟨w.heap.size + 1, 6, none⟩ = some (.slice (some ad2) ms2.length capm2) ∧ w'.cell? (ad.add j) = some (.float .f64 x) ∧ w'.cell? (ad2.add j) = some (.float .f64 y)) (first | (with_reducible exact four_cells HWc.out HZX.out HZY.out HCX.out HCY.out) | (with_reducible exact four_cells (below_drew HWc.out) HZX.out HZY.out HCX.out HCY.out) | go_keep) (first
          | (go_at_call 64; (with_reducible refine (mput2_calls x HX.out _).mono ?_); rintro e w9 ⟨rfl, hb5⟩; rw [HSX.out]; have HWn := Aside0.mk (below_then (by first | exact HWc.out | exact below_drew HWc.out | exact pw_below_drewN HWc.out _) (by first | exact HWc.out.size | exact (below_drew HWc.out).size | exact (pw_below_drewN HWc.out _).size) hb5); clear HWc hb5; have HWc := HWn; clear HWn)
          | (go_at_call 64; (with_reducible refine (mput2_calls y HY.out _).mono ?_); rintro e w9 ⟨rfl, hb5⟩; rw [HSY.out]; have HWn := Aside0.mk (below_then (by first | exact HWc.out | exact below_drew HWc.out | exact pw_below_drewN HWc.out _) (by first | exact HWc.out.size | exact (below_drew HWc.out).size | exact (pw_below_drewN HWc.out _).size) hb5); clear HWc hb5; have HWc := HWn; clear HWn))
        all_goals
          go_wp2_with fail
          go_roundw
          case rel => exact ⟨j + 1, by omega, by go_num, ⟨by rw [HTX.out, HTY.out, HTK.out, HSX.out, HSY.out, HEQ.out]⟩, ⟨below_then HWR.out HWR.out.size (by first | exact HWc.out | exact below_drew HWc.out | exact pw_below_drewN HWc.out _)⟩⟩
          case measure => simp [intOf]; omega
      · have ht1 : (SX.toList == SY.toList) = false := by rw [beq_eq_false_iff_ne, ne_eq, toList_iff]; exact hs
        have ht2 : (SX.toList != SY.toList) = true := by rw [bne_iff_ne, ne_eq, toList_iff]; exact hs
        have HNE := Aside0.mk hs
        clear hs
        go_wp2_with fail
        go_region_held3 (fun w' => w'.cell? ⟨w.heap.size, 6, none⟩ = some (.slice (some ad) ms.length capm) ∧ w'.cell? ⟨w.heap.size + 1, 6, none⟩ = some (.slice (some ad2) ms2.length capm2) ∧ w'.cell? (ad.add j) = some (.float .f64 x) ∧ w'.cell? (ad2.add j) = some (.float .f64 y)) (first | (with_reducible exact four_cells HWc.out HZX.out HZY.out HCX.out HCY.out) | (with_reducible exact four_cells (below_drew HWc.out) HZX.out HZY.out HCX.out HCY.out) | go_keep) (first
          | (go_at_call 64; (with_reducible refine (mput2_calls x HX.out _).mono ?_); rintro e w9 ⟨rfl, hb5⟩; rw [HSX.out]; have HWn := Aside0.mk (below_then (by first | exact HWc.out | exact below_drew HWc.out | exact pw_below_drewN HWc.out _) (by first | exact HWc.out.size | exact (below_drew HWc.out).size | exact (pw_below_drewN HWc.out _).size) hb5); clear HWc hb5; have HWc := HWn; clear HWn)
          | (go_at_call 64; (with_reducible refine (mput2_calls y HY.out _).mono ?_); rintro e w9 ⟨rfl, hb5⟩; rw [HSY.out]; have HWn := Aside0.mk (below_then (by first | exact HWc.out | exact below_drew HWc.out | exact pw_below_drewN HWc.out _) (by first | exact HWc.out.size | exact (below_drew HWc.out).size | exact (pw_below_drewN HWc.out _).size) hb5); clear HWc hb5; have HWc := HWn; clear HWn))
        all_goals
          go_wp2
          go_ret
          refine ⟨?_, below_then HW.out HW.out.size (below_then HWR.out HWR.out.size (by first | exact HWc.out | exact below_drew HWc.out | exact pw_below_drewN HWc.out _))⟩
          rw [HV.out]
          have hne : ¬ xs = ys := fun h => by
            have h1 := HTX.out
            rw [h, HTY.out, HSX.out, HSY.out] at h1
            exact HNE.out (List.cons.inj (List.append_inj_right' h1 rfl)).1.symm
          simp [hne]
    · obtain rfl : ms.length = j := by omega
      have hd : decide ((ms.length : Int) < (ms2.length : Int)) = false := by have := HL.out; simp; omega
      have hd2 : decide (ms.length < ms2.length) = false := by have := HL.out; simp; omega
      have hfull : xs = ys := by
        have h := HTK.out
        rw [List.take_of_length_le (by have := HLX.out; omega), List.take_of_length_le (by have := HLY.out; omega)] at h
        exact h
      have HF := Aside0.mk hfull
      clear hfull
      go_wp2
      go_ret
      exact ⟨by rw [HV.out, HF.out]; simp, below_then HW.out HW.out.size HWR.out⟩
end Go.Proofs.Ytnajmemcdipknaa.PK
