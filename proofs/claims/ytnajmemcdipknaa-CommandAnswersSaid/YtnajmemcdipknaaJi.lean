/- command.GetReply, the walk. Condition: none.
The document's Get for a command, the walk: it tells getC. Condition: no more than 2^47 bytes.
The document's GetReply, the walk. Condition: the bytes take no more than 2^47.
primerlaw21.same, the walk. Condition: none.
primerlaw21.alike, the walk. Condition: the marks are words of 64 bits.
Commands, the plain law: what a good command writes is read again. Condition: none.
Commands, the plain law's converse: what is read without an error is what the read command writes. Condition: none.
primerlaw21.speaks by hand: it answers yes. Condition: none. -/
import Derived.Test.YtnajmemcdipknaaJh
import Derived.Test.YtnajmemcdipknaaJg
import Derived.Deep.RegionHeld3
namespace Go.Proofs.Ytnajmemcdipknaa.PK
open Go.RowKit Go.Proofs.YtnajmemcdipknaaW.PrintWords Go.Proofs.YtnajmemcdipknaaW.PrintLast Go.Proofs.YtnajmemcdipknaaW.PrintMore
open Go.ChangeShapes Go.WideShapes
set_option linter.unusedVariables false
set_option linter.unusedSimpArgs false
set_option maxRecDepth 100000
theorem GetSt.moved {w W W' : World} {gr gi gc : Nat} {TC TI : TypeId} {s : ByteArray} {e : Int} {cs zs : Array Value} (h : GetSt w W gr gi gc TC TI s e cs zs) (hC : SameT TC W W') (hI : SameT TI W W') (hb : Below w.heap.size w W') : GetSt w W' gr gi gc TC TI s e cs zs :=
  ⟨blk_same h.i hI, blk_same h.c hC, blk_same h.r hC, hb, h.lr, h.li, h.lc, h.nic, h.nri, h.nrc⟩
set_option maxHeartbeats 6400000 in
theorem cGetReply_calls (s : ByteArray) (w : World) : Calls Try.prog 21 #[.string s] w (ToldR (getR s).1 (getR s).2 w) := by
  have hu := Try.underlying44
  obtain ⟨code, s0, e0, hq0⟩ : ∃ v s' e', q0 s = (v, s', e') := ⟨_, _, _, rfl⟩
  have H0 : Aside0 (inInt s 0 = (code, s0, e0)) := ⟨by have h := hq0; unfold q0 at h; exact h⟩
  obtain ⟨line, s1, e1, hq1⟩ : ∃ v s' e', q1 s = (v, s', e') := ⟨_, _, _, rfl⟩
  have H1 : Aside0 (inInt s0 e0 = (line, s1, e1)) := ⟨by have h := hq1; unfold q1 at h; rw [hq0] at h; exact h⟩
  obtain ⟨col, s2, e2, hq2⟩ : ∃ v s' e', q2 s = (v, s', e') := ⟨_, _, _, rfl⟩
  have H2 : Aside0 (inInt s1 e1 = (col, s2, e2)) := ⟨by have h := hq2; unfold q2 at h; rw [hq1] at h; exact h⟩
  obtain ⟨cnt, s3, e3, hq3⟩ : ∃ v s' e', q3 s = (v, s', e') := ⟨_, _, _, rfl⟩
  have H3 : Aside0 (inInt s2 e2 = (cnt, s3, e3)) := ⟨by have h := hq3; unfold q3 at h; rw [hq2] at h; exact h⟩
  obtain ⟨tx, s4, e4, hq4⟩ : ∃ v s' e', q4 s = (v, s', e') := ⟨_, _, _, rfl⟩
  have H4 : Aside0 (inText s3 e3 = (tx, s4, e4)) := ⟨by have h := hq4; unfold q4 at h; rw [hq3] at h; exact h⟩
  obtain ⟨ts, s5, e5, hq5⟩ : ∃ v s' e', q5 s = (v, s', e') := ⟨_, _, _, rfl⟩
  have H5 : Aside0 (inTexts s4 e4 4096 = (ts, s5, e5)) := ⟨by have h := hq5; unfold q5 at h; rw [hq4] at h; exact h⟩
  obtain ⟨l, s6, e6, hq6⟩ : ∃ v s' e', q6 s = (v, s', e') := ⟨_, _, _, rfl⟩
  have H6 : Aside0 (inTexts s5 e5 4096 = (l, s6, e6)) := ⟨by have h := hq6; unfold q6 at h; rw [hq5] at h; exact h⟩
  have HQ : Aside0 ((q0 s).1 = code ∧ (q6 s).1 = l ∧ (q6 s).2.1 = s6 ∧ (q6 s).2.2 = e6 ∧ ((q1 s).1 = line ∧ (q2 s).1 = col ∧ (q3 s).1 = cnt ∧ (q4 s).1 = tx ∧ (q5 s).1 = ts)) := ⟨by rw [hq0], by rw [hq6], by rw [hq6], by rw [hq6], by rw [hq1], by rw [hq2], by rw [hq3], by rw [hq4], by rw [hq5]⟩
  clear hq0 hq1 hq2 hq3 hq4 hq5 hq6
  go_enter Try.func21, Try.ntmps21
  go_wp2_with fail
  have hn := heap_alloc_new w (.cells #[.int .i64 0, .int .i64 0, .int .i64 0, .int .i64 0, .string ⟨#[]⟩, .slice none 0 0, .slice none 0 0] 44)
  have hb0 := below_alloc (Below.refl w.heap.size w) (.cells #[.int .i64 0, .int .i64 0, .int .i64 0, .int .i64 0, .string ⟨#[]⟩, .slice none 0 0, .slice none 0 0] 44)
  refine (octets_Open.calls s s 0 w _ hb0 rfl).mono ?_
  rintro e w2 ⟨gi, rfl, hi2, hb2, hbb⟩
  have hr2 := (hbb.block w.heap.size (blk_lt hn)).trans hn
  have hne : w.heap.size ≠ gi := blk_ne hr2 hi2.1 (by decide)
  go_wp2_with fail
  (with_reducible refine (octets_In_Int.calls gi s 0 code s0 e0 w _ hi2 hb2 (by rw [In_Int_eq, H0.out])).mono ?_)
  rintro e wv0 ⟨rfl, hi, hb, hk⟩
  have hr3 := (hk.2 w.heap.size (blk_lt hr2) hne (by simp)).trans hr2
  have hlt := blk_lt hi.1
  have hlr := blk_lt hr3
  have hn3 := heap_alloc_new wv0 (.cells #[.int .i64 code, .int .i64 0, .int .i64 0, .int .i64 0, .string ⟨#[]⟩, .slice none 0 0, .slice none 0 0] 44)
  have hb3 := below_alloc (Below.refl wv0.heap.size wv0) (.cells #[.int .i64 code, .int .i64 0, .int .i64 0, .int .i64 0, .string ⟨#[]⟩, .slice none 0 0, .slice none 0 0] 44)
  obtain ⟨gc, hgc⟩ : ∃ gc, wv0.heap.size = gc := ⟨_, rfl⟩
  have G0 : Aside0 (GetSt w (wv0.alloc (.cells #[.int .i64 code, .int .i64 0, .int .i64 0, .int .i64 0, .string ⟨#[]⟩, .slice none 0 0, .slice none 0 0] 44)) w.heap.size gi gc 44 153 s0 e0 #[.int .i64 code, .int .i64 0, .int .i64 0, .int .i64 0, .string ⟨#[]⟩, .slice none 0 0, .slice none 0 0] #[.int .i64 0, .int .i64 0, .int .i64 0, .int .i64 0, .string ⟨#[]⟩, .slice none 0 0, .slice none 0 0]) :=
    ⟨⟨(hb3.block _ hlt).trans hi.1, by rw [← hgc]; exact hn3, (hb3.block _ hlr).trans hr3, below_then hb hb.size hb3, Nat.le_refl _, hi.2, by rw [← hgc]; exact hb.size, by omega, hne, by omega⟩⟩
  clear hi2 hb2 hbb
  clear hn hb0 hi hb hk hr2 hr3 hne hlt hlr hn3 hb3
  go_wp2_with fail

  clear hgc
  have G := G0
  clear G0
  (with_reducible refine (octets_In_Int.calls gi s0 e0 line s1 e1 w _ G.out.isIn G.out.b (by rw [In_Int_eq, H1.out])).mono ?_)
  rintro e wv1 ⟨rfl, hi, hb, hk⟩
  have G' := Aside0.mk (G.out.call hi.1 hb hk)
  have hz : wv1.cell? ⟨gc, 1, none⟩ = some (.int .i64 0) := (blk_cell G'.out.c 1).trans rfl
  have hf : wv1.frozen? ⟨gc, 1, none⟩ = false := blk_frozen G'.out.c 1
  have G'' : Aside0 (GetSt w (wv1.setCell ⟨gc, 1, none⟩ (.int .i64 line)) w.heap.size gi gc 44 153 s1 e1 #[.int .i64 code, .int .i64 line, .int .i64 0, .int .i64 0, .string ⟨#[]⟩, .slice none 0 0, .slice none 0 0] #[.int .i64 0, .int .i64 0, .int .i64 0, .int .i64 0, .string ⟨#[]⟩, .slice none 0 0, .slice none 0 0]) := ⟨G'.out.store 1 (.int .i64 line)⟩
  clear hi hb hk G
  have G := G''
  clear G'' G'
  go_wp2_with fail
  clear hz hf
  (with_reducible refine (octets_In_Int.calls gi s1 e1 col s2 e2 w _ G.out.isIn G.out.b (by rw [In_Int_eq, H2.out])).mono ?_)
  rintro e wv2 ⟨rfl, hi, hb, hk⟩
  have G' := Aside0.mk (G.out.call hi.1 hb hk)
  have hz : wv2.cell? ⟨gc, 2, none⟩ = some (.int .i64 0) := (blk_cell G'.out.c 2).trans rfl
  have hf : wv2.frozen? ⟨gc, 2, none⟩ = false := blk_frozen G'.out.c 2
  have G'' : Aside0 (GetSt w (wv2.setCell ⟨gc, 2, none⟩ (.int .i64 col)) w.heap.size gi gc 44 153 s2 e2 #[.int .i64 code, .int .i64 line, .int .i64 col, .int .i64 0, .string ⟨#[]⟩, .slice none 0 0, .slice none 0 0] #[.int .i64 0, .int .i64 0, .int .i64 0, .int .i64 0, .string ⟨#[]⟩, .slice none 0 0, .slice none 0 0]) := ⟨G'.out.store 2 (.int .i64 col)⟩
  clear hi hb hk G
  have G := G''
  clear G'' G'
  go_wp2_with fail
  clear hz hf
  (with_reducible refine (octets_In_Int.calls gi s2 e2 cnt s3 e3 w _ G.out.isIn G.out.b (by rw [In_Int_eq, H3.out])).mono ?_)
  rintro e wv3 ⟨rfl, hi, hb, hk⟩
  have G' := Aside0.mk (G.out.call hi.1 hb hk)
  have hz : wv3.cell? ⟨gc, 3, none⟩ = some (.int .i64 0) := (blk_cell G'.out.c 3).trans rfl
  have hf : wv3.frozen? ⟨gc, 3, none⟩ = false := blk_frozen G'.out.c 3
  have G'' : Aside0 (GetSt w (wv3.setCell ⟨gc, 3, none⟩ (.int .i64 cnt)) w.heap.size gi gc 44 153 s3 e3 #[.int .i64 code, .int .i64 line, .int .i64 col, .int .i64 cnt, .string ⟨#[]⟩, .slice none 0 0, .slice none 0 0] #[.int .i64 0, .int .i64 0, .int .i64 0, .int .i64 0, .string ⟨#[]⟩, .slice none 0 0, .slice none 0 0]) := ⟨G'.out.store 3 (.int .i64 cnt)⟩
  clear hi hb hk G
  have G := G''
  clear G'' G'
  go_wp2_with fail
  clear hz hf
  (with_reducible refine (octets_In_Text.calls 1 gi s3 e3 tx s4 e4 w _ G.out.isIn G.out.b (by rw [In_Text_eq s3 e3 1 (by omega), H4.out])).mono ?_)
  rintro e wv4 ⟨rfl, hi, hb, hk⟩
  have G' := Aside0.mk (G.out.call hi.1 hb hk)
  have hz : wv4.cell? ⟨gc, 4, none⟩ = some (.string ⟨#[]⟩) := (blk_cell G'.out.c 4).trans rfl
  have hf : wv4.frozen? ⟨gc, 4, none⟩ = false := blk_frozen G'.out.c 4
  have G'' : Aside0 (GetSt w (wv4.setCell ⟨gc, 4, none⟩ (.string tx)) w.heap.size gi gc 44 153 s4 e4 #[.int .i64 code, .int .i64 line, .int .i64 col, .int .i64 cnt, .string tx, .slice none 0 0, .slice none 0 0] #[.int .i64 0, .int .i64 0, .int .i64 0, .int .i64 0, .string ⟨#[]⟩, .slice none 0 0, .slice none 0 0]) := ⟨G'.out.store 4 (.string tx)⟩
  clear hi hb hk G
  have G := G''
  clear G'' G'
  go_wp2_with fail
  clear hz hf
  (with_reducible refine (octets_In_Texts.calls 65539 gi s4 e4 4096 ts s5 e5 w _ G.out.isIn G.out.b (by rw [In_Texts_eq s4 e4 4096 65539 (by omega), H5.out])).mono ?_)
  rintro e wv5 ⟨v0, rfl, hR, hi, hb, hk⟩
  obtain ⟨A, cap, ha, hcap, _⟩ := Kd.R_reads hR
  subst ha
  have hO : ∃ bb, wv5.ownsRow bb 9 1 (.slice A ts.length cap) ts.length (encs Value.string ts) := ⟨_, Kd.own_of_R hR⟩
  obtain ⟨b5, hO⟩ := hO
  have G' := Aside0.mk (G.out.call hi.1 hb hk)
  have hz : wv5.cell? ⟨gc, 5, none⟩ = some (.slice none 0 0) := (blk_cell G'.out.c 5).trans rfl
  have hf : wv5.frozen? ⟨gc, 5, none⟩ = false := blk_frozen G'.out.c 5
  have G'' : Aside0 (GetSt w (wv5.setCell ⟨gc, 5, none⟩ (.slice A ts.length cap)) w.heap.size gi gc 44 153 s5 e5 #[.int .i64 code, .int .i64 line, .int .i64 col, .int .i64 cnt, .string tx, .slice A ts.length cap, .slice none 0 0] #[.int .i64 0, .int .i64 0, .int .i64 0, .int .i64 0, .string ⟨#[]⟩, .slice none 0 0, .slice none 0 0]) := ⟨G'.out.store 5 (.slice A ts.length cap)⟩
  have HT := Aside0.mk (own_same hO (SameT.set_ G'.out.c (by decide) 5 (.slice A ts.length cap)))
  clear hi hb hk G hR hO
  have G := G''
  clear G'' G'
  go_wp2_with fail
  clear hz hf
  (with_reducible refine (octets_In_Texts.calls 65539 gi s5 e5 4096 l s6 e6 w _ G.out.isIn G.out.b (by rw [In_Texts_eq s5 e5 4096 65539 (by omega), H6.out])).mono ?_)
  rintro e wv6 ⟨v0, rfl, hR, hi, hb, hk⟩
  obtain ⟨B, capl, ha, hcapl, _⟩ := Kd.R_reads hR
  subst ha
  have hO : ∃ bb, wv6.ownsRow bb 9 1 (.slice B l.length capl) l.length (encs Value.string l) := ⟨_, Kd.own_of_R hR⟩
  obtain ⟨b6, hO⟩ := hO
  have HT6 := Aside0.mk (own_same HT.out (SameT.keep hk G.out.i (by decide)))
  have HL6 := Aside0.mk hO
  have G' := Aside0.mk (G.out.call hi.1 hb hk)
  clear hi hb hk G hR hO HT
  have G := G'
  clear G'
  have zr0 : wv6.cell? ⟨w.heap.size, 0, none⟩ = some (.int .i64 0) := (blk_cell G.out.r 0).trans rfl
  have fr0 : wv6.frozen? ⟨w.heap.size, 0, none⟩ = false := blk_frozen G.out.r 0
  have zr1 : wv6.cell? ⟨w.heap.size, 1, none⟩ = some (.int .i64 0) := (blk_cell G.out.r 1).trans rfl
  have fr1 : wv6.frozen? ⟨w.heap.size, 1, none⟩ = false := blk_frozen G.out.r 1
  have zr2 : wv6.cell? ⟨w.heap.size, 2, none⟩ = some (.int .i64 0) := (blk_cell G.out.r 2).trans rfl
  have fr2 : wv6.frozen? ⟨w.heap.size, 2, none⟩ = false := blk_frozen G.out.r 2
  have zr3 : wv6.cell? ⟨w.heap.size, 3, none⟩ = some (.int .i64 0) := (blk_cell G.out.r 3).trans rfl
  have fr3 : wv6.frozen? ⟨w.heap.size, 3, none⟩ = false := blk_frozen G.out.r 3
  have zr4 : wv6.cell? ⟨w.heap.size, 4, none⟩ = some (.string ⟨#[]⟩) := (blk_cell G.out.r 4).trans rfl
  have fr4 : wv6.frozen? ⟨w.heap.size, 4, none⟩ = false := blk_frozen G.out.r 4
  have zr5 : wv6.cell? ⟨w.heap.size, 5, none⟩ = some (.slice none 0 0) := (blk_cell G.out.r 5).trans rfl
  have fr5 : wv6.frozen? ⟨w.heap.size, 5, none⟩ = false := blk_frozen G.out.r 5
  have zr6 : wv6.cell? ⟨w.heap.size, 6, none⟩ = some (.slice none 0 0) := (blk_cell G.out.r 6).trans rfl
  have fr6 : wv6.frozen? ⟨w.heap.size, 6, none⟩ = false := blk_frozen G.out.r 6


  by_cases he : e6 = 0
  rotate_left
  · have he2 : (e6 != 0) = true := by rw [bne_iff_ne]; exact he
    have he3 : (e6 == 0) = false := by rw [beq_eq_false_iff_ne]; exact he
    have HTT : Aside0 (getR s = (zeroR, e6)) := ⟨by unfold getR; rw [HQ.out.2.2.2.1]; exact if_pos he⟩
    go_wp2_with (go_at_call 56; refine (err_quiet gi s6 e6 _ G.out.i).mono ?_; rintro e w' ⟨rfl, rfl⟩)
    (try simp only [Exit.inBlock, Exit.then])
    refine bodyPost_ret (results_ct rfl _ _ w.heap.size 44 #[.int .i64 0, .int .i64 0, .int .i64 0, .int .i64 0, .string ⟨#[]⟩, .slice none 0 0, .slice none 0 0] (0, 0) _ rfl (put7 G.out.r _ _ _ _ _ _ _) Try.underlying44 rfl (by kernel_rfl)) rfl ?_
    exact toldR_z HTT.out (put7_below G.out.b (Nat.le_refl _) _ _ _ _ _ _ _)
  subst he
  by_cases hc0 : code < 0
  · have d1 : decide (code < 0) = true := by simp; omega
    have HTT : Aside0 (getR s = (zeroR, 2)) := ⟨by unfold getR; rw [HQ.out.2.2.2.1, HQ.out.1, if_neg (by simp), if_pos (.inl hc0)]⟩
    clear hc0
    go_wp2_with (go_at_call 56; refine (err_quiet gi s6 0 _ G.out.i).mono ?_; rintro e w' ⟨rfl, rfl⟩)
    (try simp only [Exit.inBlock, Exit.then])
    refine bodyPost_ret (results_ct rfl _ _ w.heap.size 44 #[.int .i64 0, .int .i64 0, .int .i64 0, .int .i64 0, .string ⟨#[]⟩, .slice none 0 0, .slice none 0 0] (0, 0) _ rfl (put7 G.out.r _ _ _ _ _ _ _) Try.underlying44 rfl (by kernel_rfl)) rfl ?_
    exact toldR_z HTT.out (put7_below G.out.b (Nat.le_refl _) _ _ _ _ _ _ _)
  have d1 : decide (code < 0) = false := by simp; omega
  by_cases hc1 : 20 < code
  · have d2 : decide (20 < code) = true := by simp; omega
    have HTT : Aside0 (getR s = (zeroR, 2)) := ⟨by unfold getR; rw [HQ.out.2.2.2.1, HQ.out.1, if_neg (by simp), if_pos (.inr hc1)]⟩
    clear hc0 hc1
    go_wp2_with (go_at_call 56; refine (err_quiet gi s6 0 _ G.out.i).mono ?_; rintro e w' ⟨rfl, rfl⟩)
    (try simp only [Exit.inBlock, Exit.then])
    refine bodyPost_ret (results_ct rfl _ _ w.heap.size 44 #[.int .i64 0, .int .i64 0, .int .i64 0, .int .i64 0, .string ⟨#[]⟩, .slice none 0 0, .slice none 0 0] (0, 0) _ rfl (put7 G.out.r _ _ _ _ _ _ _) Try.underlying44 rfl (by kernel_rfl)) rfl ?_
    exact toldR_z HTT.out (put7_below G.out.b (Nat.le_refl _) _ _ _ _ _ _ _)
  have d2 : decide (20 < code) = false := by simp; omega
  have HGR : Aside0 (getR s = if badMs l then (zeroR, 2) else if s6.size = 0 then (⟨code, line, col, cnt, tx, ts, valMs l⟩, 0) else (zeroR, 4)) := ⟨by
    unfold getR; rw [HQ.out.2.2.2.1, HQ.out.1, HQ.out.2.1, HQ.out.2.2.1, HQ.out.2.2.2.2.1, HQ.out.2.2.2.2.2.1, HQ.out.2.2.2.2.2.2.1, HQ.out.2.2.2.2.2.2.2.1, HQ.out.2.2.2.2.2.2.2.2, if_neg (by simp), if_neg (by omega)]⟩
  have LL : Aside0 (l.length ≤ 65536) := ⟨by have h := inSeq_len (fun s => inText s 0) s5 e5 4096; have h6 := H6.out; unfold inTexts at h6; rw [h6] at h; exact h⟩
  clear hc0 hc1
  go_wp2_with (go_at_call 56; refine (err_quiet gi s6 0 _ G.out.i).mono ?_; rintro e w' ⟨rfl, rfl⟩)
  clear zr0 fr0 zr1 fr1 zr2 fr2 zr3 fr3 zr4 fr4 zr5 fr5 zr6 fr6 
  go_loopw [52] (fun i wr => ∃ j : Nat, j ≤ l.length ∧ i = .int .i64 j ∧ Aside0 (badMs (l.take j) = false) ∧ ∃ M capm, Aside0 (GetSt w (wr) w.heap.size gi gc 44 153 s6 0 #[.int .i64 code, .int .i64 line, .int .i64 col, .int .i64 cnt, .string tx, .slice A ts.length cap, .slice M j capm] #[.int .i64 0, .int .i64 0, .int .i64 0, .int .i64 0, .string ⟨#[]⟩, .slice none 0 0, .slice none 0 0]) ∧ Aside0 (wr.ownsRow w.heap.size 120 1 (.slice M j capm) j (encs (Value.float .f64) (valMs (l.take j)))) ∧ Aside0 (wr.ownsRow b5 9 1 (.slice A ts.length cap) ts.length (encs Value.string ts)) ∧ Aside0 (wr.ownsRow b6 9 1 (.slice B l.length capl) l.length (encs Value.string l))) (fun i _ => l.length - (intOf i).toNat)
  case atStart => exact ⟨0, Nat.zero_le _, rfl, ⟨rfl⟩, none, 0, ⟨G.out⟩, ⟨own_nil _ _ _ _⟩, HT6, HL6⟩
  case round =>
    obtain ⟨j, hj, rfl, HBM, M, capm, HG, HF, HTS, HLS⟩ := hrel
    clear G HT6 HL6
    have G := HG
    clear HG
    have zr0 : wr.cell? ⟨w.heap.size, 0, none⟩ = some (.int .i64 0) := (blk_cell G.out.r 0).trans rfl
    have fr0 : wr.frozen? ⟨w.heap.size, 0, none⟩ = false := blk_frozen G.out.r 0
    have zr1 : wr.cell? ⟨w.heap.size, 1, none⟩ = some (.int .i64 0) := (blk_cell G.out.r 1).trans rfl
    have fr1 : wr.frozen? ⟨w.heap.size, 1, none⟩ = false := blk_frozen G.out.r 1
    have zr2 : wr.cell? ⟨w.heap.size, 2, none⟩ = some (.int .i64 0) := (blk_cell G.out.r 2).trans rfl
    have fr2 : wr.frozen? ⟨w.heap.size, 2, none⟩ = false := blk_frozen G.out.r 2
    have zr3 : wr.cell? ⟨w.heap.size, 3, none⟩ = some (.int .i64 0) := (blk_cell G.out.r 3).trans rfl
    have fr3 : wr.frozen? ⟨w.heap.size, 3, none⟩ = false := blk_frozen G.out.r 3
    have zr4 : wr.cell? ⟨w.heap.size, 4, none⟩ = some (.string ⟨#[]⟩) := (blk_cell G.out.r 4).trans rfl
    have fr4 : wr.frozen? ⟨w.heap.size, 4, none⟩ = false := blk_frozen G.out.r 4
    have zr5 : wr.cell? ⟨w.heap.size, 5, none⟩ = some (.slice none 0 0) := (blk_cell G.out.r 5).trans rfl
    have fr5 : wr.frozen? ⟨w.heap.size, 5, none⟩ = false := blk_frozen G.out.r 5
    have zr6 : wr.cell? ⟨w.heap.size, 6, none⟩ = some (.slice none 0 0) := (blk_cell G.out.r 6).trans rfl
    have fr6 : wr.frozen? ⟨w.heap.size, 6, none⟩ = false := blk_frozen G.out.r 6
    have zc6 : wr.cell? ⟨gc, 6, none⟩ = some (.slice M j capm) := (blk_cell G.out.c 6).trans rfl
    have fc6 : wr.frozen? ⟨gc, 6, none⟩ = false := blk_frozen G.out.c 6
    have hmx := (own_C HLS.out).1.2.1
    by_cases hjn : j < l.length
    · obtain ⟨ad, rfl, hcell⟩ := C_str (own_C HLS.out).1 j hjn
      have hd : decide ((j : Int) < (l.length : Int)) = true := by simp; omega
      obtain ⟨x, hxx⟩ : ∃ x, l[j] = x := ⟨_, rfl⟩
      rw [hxx] at hcell
      have HTK := Aside0.mk (show l.take (j + 1) = l.take j ++ [x] from by rw [List.take_succ_eq_append_getElem hjn, hxx])
      have HJL := Aside0.mk (show (valMs (l.take j)).length = j from by unfold valMs; rw [List.length_map, List.length_take]; omega)
      have HL1 : ∀ n : Nat, Aside0 ((valMs (l.take j) ++ [n]).length = j + 1) := fun n => ⟨by rw [List.length_append, HJL.out]; rfl⟩
      have HMEM := Aside0.mk (show x ∈ l from by rw [← hxx]; exact List.getElem_mem hjn)
      clear hxx
      obtain ⟨n, em, hgm⟩ : ∃ n em, getM x = (n, em) := ⟨_, _, rfl⟩
      have HGM := Aside0.mk hgm
      have HL1 := HL1 n
      clear hgm
      by_cases h0 : em = 0
      · subst h0
        go_wp2_with fail
        (with_reducible refine (mget_calls x _).mono ?_)
        rintro e w4 ⟨rfl, rfl⟩
        rw [HGM.out]
        go_wp2_with (at_builtin; (refine print_append_of (w0 := w) (Value.float .f64) w.heap.size rfl (.tmp 65) (.tmp 67) 42 120 (.float .f64 0) 8 rfl Try.underlying42 info120 rfl (by decide) _ (valMs (l.take j)) n rfl rfl rfl (own_len HF.out HJL.out.symm) G.out.b G.out.b.size (by have := HJL.out; have := LL.out; omega) ?_); intro v5' w5 ho hbl hg _; rw [HL1.out] at ho; obtain ⟨M2, capm2, rfl, _⟩ := own_reads_of (d := (0 : Nat)) ho; have SC := Aside0.mk (SameT.grown hg HF.out (show 44 ≠ 120 from by decide)); have SI := Aside0.mk (SameT.grown hg HF.out (show 153 ≠ 120 from by decide)); have SS := Aside0.mk (SameT.grown hg HF.out (show 9 ≠ 120 from by decide)); have G5 := Aside0.mk (G.out.moved SC.out SI.out hbl); have HF5 := Aside0.mk ho; have HT5 := Aside0.mk (own_same HTS.out SS.out); have HL5 := Aside0.mk (own_same HLS.out SS.out); clear ho hbl hg SC SI SS zc6 fc6; have zc6 : w5.cell? ⟨gc, 6, none⟩ = some (.slice M j capm) := (blk_cell G5.out.c 6).trans rfl; have fc6 : w5.frozen? ⟨gc, 6, none⟩ = false := blk_frozen G5.out.c 6)
        go_roundw
        case rel =>
          have hval : valMs (l.take (j + 1)) = valMs (l.take j) ++ [n] := by rw [HTK.out]; unfold valMs; rw [List.map_append, List.map_cons, List.map_nil, HGM.out]
          have hbad : badMs (l.take (j + 1)) = false := by
            rw [HTK.out]
            have h := HBM.out
            unfold badMs at h ⊢
            rw [List.any_append, h]
            simp [HGM.out]
          refine ⟨j + 1, by omega, by go_num, ⟨hbad⟩, M2, capm2, ?_, ?_, ?_, ?_⟩
          · exact ⟨G5.out.store 6 (.slice M2 (j + 1) capm2)⟩
          · rw [hval]; exact ⟨own_same HF5.out (SameT.set_ G5.out.c (by decide) 6 _)⟩
          · exact ⟨own_same HT5.out (SameT.set_ G5.out.c (by decide) 6 _)⟩
          · exact ⟨own_same HL5.out (SameT.set_ G5.out.c (by decide) 6 _)⟩
        case measure => simp [intOf]; omega
      · have h1 : (em != 0) = true := by rw [bne_iff_ne]; exact h0
        have h2 : (em == 0) = false := by rw [beq_eq_false_iff_ne]; exact h0
        have HTT : Aside0 (getR s = (zeroR, 2)) := ⟨by
          rw [HGR.out, if_pos]
          unfold badMs
          rw [List.any_eq_true]
          exact ⟨x, HMEM.out, by rw [HGM.out]; simp [h0]⟩⟩
        clear h0
        go_wp2_with fail
        (with_reducible refine (mget_calls x _).mono ?_)
        rintro e w4 ⟨rfl, rfl⟩
        rw [HGM.out]
        go_wp2
        (try simp only [Exit.inBlock, Exit.then])
        refine bodyPost_ret (results_ct rfl _ _ w.heap.size 44 #[.int .i64 0, .int .i64 0, .int .i64 0, .int .i64 0, .string ⟨#[]⟩, .slice none 0 0, .slice none 0 0] (0, 0) _ rfl (put7 G.out.r _ _ _ _ _ _ _) Try.underlying44 rfl (by kernel_rfl)) rfl ?_
        exact toldR_z HTT.out (put7_below G.out.b (Nat.le_refl _) _ _ _ _ _ _ _)
    · obtain rfl : l.length = j := by omega
      have hd : decide ((l.length : Int) < (l.length : Int)) = false := by simp
      have hbm := HBM.out
      have hf := HF.out
      rw [List.take_length] at hbm hf
      have HBF := Aside0.mk hbm
      have HF2 := Aside0.mk hf
      have HVL := Aside0.mk (show (valMs l).length = l.length from by unfold valMs; rw [List.length_map])
      clear hbm hf HBM HF hjn
      have zc0 : wr.cell? ⟨gc, 0, none⟩ = some (.int .i64 code) := (blk_cell G.out.c 0).trans rfl
      have zc1 : wr.cell? ⟨gc, 1, none⟩ = some (.int .i64 line) := (blk_cell G.out.c 1).trans rfl
      have zc2 : wr.cell? ⟨gc, 2, none⟩ = some (.int .i64 col) := (blk_cell G.out.c 2).trans rfl
      have zc3 : wr.cell? ⟨gc, 3, none⟩ = some (.int .i64 cnt) := (blk_cell G.out.c 3).trans rfl
      have zc4 : wr.cell? ⟨gc, 4, none⟩ = some (.string tx) := (blk_cell G.out.c 4).trans rfl
      have zc5 : wr.cell? ⟨gc, 5, none⟩ = some (.slice A ts.length cap) := (blk_cell G.out.c 5).trans rfl
      have zc6 : wr.cell? ⟨gc, 6, none⟩ = some (.slice M l.length capm) := (blk_cell G.out.c 6).trans rfl

      by_cases hz6 : s6.size = 0
      · have HTT : Aside0 (getR s = (⟨code, line, col, cnt, tx, ts, valMs l⟩, 0)) := ⟨by rw [HGR.out, HBF.out, if_neg (by simp), if_pos hz6]⟩
        have HEN : Aside0 (inEnd s6 0 = 0) := ⟨by unfold inEnd; rw [if_pos rfl, if_pos hz6]⟩
        have m1 : (s6.toList == ([] : List UInt8)) = true := by rw [beq_iff_eq]; exact (toList_nil_iff s6).mpr hz6
        have m2 : s6.toList.isEmpty = true := by rw [(toList_nil_iff s6).mpr hz6]; rfl
        clear hz6
        go_wp2_with (go_at_call 57; refine (end_quiet gi s6 0 _ G.out.i).mono ?_; rintro e w' ⟨rfl, rfl⟩; rw [HEN.out])
        (try simp only [Exit.inBlock, Exit.then])
        refine bodyPost_ret (results_ct rfl _ _ w.heap.size 44 #[.int .i64 code, .int .i64 line, .int .i64 col, .int .i64 cnt, .string tx, .slice A ts.length cap, .slice M l.length capm] (0, 0) _ rfl (put7 G.out.r _ _ _ _ _ _ _) Try.underlying44 rfl (by kernel_rfl)) rfl ?_
        exact toldR_ok HTT.out HVL.out (own_same HTS.out (put7_same G.out.r (by decide) _ _ _ _ _ _ _)) (own_same HF2.out (put7_same G.out.r (by decide) _ _ _ _ _ _ _)) (put7_below G.out.b (Nat.le_refl _) _ _ _ _ _ _ _)
      · have HTT : Aside0 (getR s = (zeroR, 4)) := ⟨by rw [HGR.out, HBF.out, if_neg (by simp), if_neg hz6]⟩
        have HEN : Aside0 (inEnd s6 0 = 4) := ⟨by unfold inEnd; rw [if_pos rfl, if_neg hz6]⟩
        have m1 : (s6.toList == ([] : List UInt8)) = false := by rw [beq_eq_false_iff_ne]; exact fun h => hz6 ((toList_nil_iff s6).mp h)
        have m2 : s6.toList.isEmpty = false := isEmpty_false hz6
        clear hz6
        go_wp2_with (go_at_call 57; refine (end_quiet gi s6 0 _ G.out.i).mono ?_; rintro e w' ⟨rfl, rfl⟩; rw [HEN.out])
        (try simp only [Exit.inBlock, Exit.then])
        refine bodyPost_ret (results_ct rfl _ _ w.heap.size 44 #[.int .i64 0, .int .i64 0, .int .i64 0, .int .i64 0, .string ⟨#[]⟩, .slice none 0 0, .slice none 0 0] (0, 0) _ rfl (put7 G.out.r _ _ _ _ _ _ _) Try.underlying44 rfl (by kernel_rfl)) rfl ?_
        exact toldR_z HTT.out (put7_below G.out.b (Nat.le_refl _) _ _ _ _ _ _ _)
end Go.Proofs.Ytnajmemcdipknaa.PK
namespace Go.Proofs.Ytnajmemcdipknaa.PK
open Go.RowKit Go.Proofs.YtnajmemcdipknaaW.PrintWords Go.Proofs.YtnajmemcdipknaaW.PrintLast Go.Proofs.YtnajmemcdipknaaW.PrintMore
open Go.ChangeShapes Go.WideShapes
set_option linter.unusedVariables false
set_option linter.unusedSimpArgs false
set_option maxRecDepth 100000
theorem GetSt.isRef {w W : World} {gr gi gc : Nat} {TC : TypeId} {s : ByteArray} {e : Int} {cs zs : Array Value} (h : GetSt w W gr gi gc TC 116 s e cs zs) : IsS116 w W gi s e := ⟨h.i, h.li⟩
end Go.Proofs.Ytnajmemcdipknaa.PK
namespace Go.Proofs.Ytnajmemcdipknaa.PK
open Go.RowKit Go.Proofs.YtnajmemcdipknaaW.PrintWords Go.Proofs.YtnajmemcdipknaaW.PrintLast Go.Proofs.YtnajmemcdipknaaW.PrintMore
open Go.ChangeShapes Go.WideShapes
set_option linter.unusedVariables false
set_option linter.unusedSimpArgs false
set_option maxRecDepth 100000
set_option maxHeartbeats 6400000 in
theorem rGetReply_calls (s : ByteArray) (hs : s.size ≤ 140737488355328) (w : World) : Calls Try.prog 22 #[.string s] w (ToldR (getR s).1 (getR s).2 w) := by
  have hu := Try.underlying48
  obtain ⟨code, s0, e0, hq0⟩ : ∃ v s' e', q0 s = (v, s', e') := ⟨_, _, _, rfl⟩
  have H0 : Aside0 (inInt s 0 = (code, s0, e0)) := ⟨by have h := hq0; unfold q0 at h; exact h⟩
  obtain ⟨line, s1, e1, hq1⟩ : ∃ v s' e', q1 s = (v, s', e') := ⟨_, _, _, rfl⟩
  have H1 : Aside0 (inInt s0 e0 = (line, s1, e1)) := ⟨by have h := hq1; unfold q1 at h; rw [hq0] at h; exact h⟩
  obtain ⟨col, s2, e2, hq2⟩ : ∃ v s' e', q2 s = (v, s', e') := ⟨_, _, _, rfl⟩
  have H2 : Aside0 (inInt s1 e1 = (col, s2, e2)) := ⟨by have h := hq2; unfold q2 at h; rw [hq1] at h; exact h⟩
  obtain ⟨cnt, s3, e3, hq3⟩ : ∃ v s' e', q3 s = (v, s', e') := ⟨_, _, _, rfl⟩
  have H3 : Aside0 (inInt s2 e2 = (cnt, s3, e3)) := ⟨by have h := hq3; unfold q3 at h; rw [hq2] at h; exact h⟩
  obtain ⟨tx, s4, e4, hq4⟩ : ∃ v s' e', q4 s = (v, s', e') := ⟨_, _, _, rfl⟩
  have H4 : Aside0 (inText s3 e3 = (tx, s4, e4)) := ⟨by have h := hq4; unfold q4 at h; rw [hq3] at h; exact h⟩
  obtain ⟨ts, s5, e5, hq5⟩ : ∃ v s' e', q5 s = (v, s', e') := ⟨_, _, _, rfl⟩
  have H5 : Aside0 (inTexts s4 e4 4096 = (ts, s5, e5)) := ⟨by have h := hq5; unfold q5 at h; rw [hq4] at h; exact h⟩
  obtain ⟨l, s6, e6, hq6⟩ : ∃ v s' e', q6 s = (v, s', e') := ⟨_, _, _, rfl⟩
  have H6 : Aside0 (inTexts s5 e5 4096 = (l, s6, e6)) := ⟨by have h := hq6; unfold q6 at h; rw [hq5] at h; exact h⟩
  have z0 : s0.size ≤ 140737488355328 := by have h := inInt_size s 0; rw [H0.out] at h; exact Nat.le_trans h hs
  have z1 : s1.size ≤ 140737488355328 := by have h := inInt_size s0 e0; rw [H1.out] at h; exact Nat.le_trans h z0
  have z2 : s2.size ≤ 140737488355328 := by have h := inInt_size s1 e1; rw [H2.out] at h; exact Nat.le_trans h z1
  have z3 : s3.size ≤ 140737488355328 := by have h := inInt_size s2 e2; rw [H3.out] at h; exact Nat.le_trans h z2
  have z4 : s4.size ≤ 140737488355328 := by have h := inText_size s3 e3; rw [H4.out] at h; exact Nat.le_trans h.1 z3
  have z5 : s5.size ≤ 140737488355328 := by have h := inTexts_size s4 e4 4096; rw [H5.out] at h; exact Nat.le_trans h z4
  have SZ : Aside0 (s.size ≤ 140737488355328 ∧ s0.size ≤ 140737488355328 ∧ s1.size ≤ 140737488355328 ∧ s2.size ≤ 140737488355328 ∧ s3.size ≤ 140737488355328 ∧ s4.size ≤ 140737488355328 ∧ s5.size ≤ 140737488355328) := ⟨hs, z0, z1, z2, z3, z4, z5⟩
  clear z0 z1 z2 z3 z4 z5
  have HQ : Aside0 ((q0 s).1 = code ∧ (q6 s).1 = l ∧ (q6 s).2.1 = s6 ∧ (q6 s).2.2 = e6 ∧ ((q1 s).1 = line ∧ (q2 s).1 = col ∧ (q3 s).1 = cnt ∧ (q4 s).1 = tx ∧ (q5 s).1 = ts)) := ⟨by rw [hq0], by rw [hq6], by rw [hq6], by rw [hq6], by rw [hq1], by rw [hq2], by rw [hq3], by rw [hq4], by rw [hq5]⟩
  clear hq0 hq1 hq2 hq3 hq4 hq5 hq6
  go_enter Try.func22, Try.ntmps22
  go_wp2_with fail
  have hn := heap_alloc_new w (.cells #[.int .i64 0, .int .i64 0, .int .i64 0, .int .i64 0, .string ⟨#[]⟩, .slice none 0 0, .slice none 0 0] 48)
  have hb0 := below_alloc (Below.refl w.heap.size w) (.cells #[.int .i64 0, .int .i64 0, .int .i64 0, .int .i64 0, .string ⟨#[]⟩, .slice none 0 0, .slice none 0 0] 48)
  have hsz1 : (w.alloc (.cells #[.int .i64 0, .int .i64 0, .int .i64 0, .int .i64 0, .string ⟨#[]⟩, .slice none 0 0, .slice none 0 0] 48)).heap.size = w.heap.size + 1 := by simp
  have hI0 : IsS116 w ((w.alloc (.cells #[.int .i64 0, .int .i64 0, .int .i64 0, .int .i64 0, .string ⟨#[]⟩, .slice none 0 0, .slice none 0 0] 48)).alloc (.cells #[.string s, .int .i64 0] 116)) (w.heap.size + 1) s 0 := by
    have h := IsS116.new w (w.alloc (.cells #[.int .i64 0, .int .i64 0, .int .i64 0, .int .i64 0, .string ⟨#[]⟩, .slice none 0 0, .slice none 0 0] 48)) s 0 hb0
    rwa [hsz1] at h
  have hb1 := below_alloc hb0 (.cells #[.string s, .int .i64 0] 116)
  have hr2 := ((below_alloc (Below.refl (w.alloc (.cells #[.int .i64 0, .int .i64 0, .int .i64 0, .int .i64 0, .string ⟨#[]⟩, .slice none 0 0, .slice none 0 0] 48)).heap.size (w.alloc (.cells #[.int .i64 0, .int .i64 0, .int .i64 0, .int .i64 0, .string ⟨#[]⟩, .slice none 0 0, .slice none 0 0] 48))) (.cells #[.string s, .int .i64 0] 116)).block w.heap.size (by omega)).trans hn
  have hne : w.heap.size ≠ w.heap.size + 1 := by omega
  (with_reducible refine (primerref01_Int.calls 25 (w.heap.size + 1) s 0 code s0 e0 w _ hI0 hb1 (by rw [ref_Int_eq s 0 SZ.out.1 25 (by omega), H0.out])).mono ?_)
  rintro e wv0 ⟨rfl, hi, hb, hk⟩
  have hr3 := (hk.2 w.heap.size (blk_lt hr2) hne (by simp)).trans hr2
  have hlt := blk_lt hi.1
  have hlr := blk_lt hr3
  have hn3 := heap_alloc_new wv0 (.cells #[.int .i64 code, .int .i64 0, .int .i64 0, .int .i64 0, .string ⟨#[]⟩, .slice none 0 0, .slice none 0 0] 48)
  have hb3 := below_alloc (Below.refl wv0.heap.size wv0) (.cells #[.int .i64 code, .int .i64 0, .int .i64 0, .int .i64 0, .string ⟨#[]⟩, .slice none 0 0, .slice none 0 0] 48)
  obtain ⟨gc, hgc⟩ : ∃ gc, wv0.heap.size = gc := ⟨_, rfl⟩
  have G0 : Aside0 (GetSt w (wv0.alloc (.cells #[.int .i64 code, .int .i64 0, .int .i64 0, .int .i64 0, .string ⟨#[]⟩, .slice none 0 0, .slice none 0 0] 48)) w.heap.size (w.heap.size + 1) gc 48 116 s0 e0 #[.int .i64 code, .int .i64 0, .int .i64 0, .int .i64 0, .string ⟨#[]⟩, .slice none 0 0, .slice none 0 0] #[.int .i64 0, .int .i64 0, .int .i64 0, .int .i64 0, .string ⟨#[]⟩, .slice none 0 0, .slice none 0 0]) :=
    ⟨⟨(hb3.block _ hlt).trans hi.1, by rw [← hgc]; exact hn3, (hb3.block _ hlr).trans hr3, below_then hb hb.size hb3, Nat.le_refl _, by omega, by rw [← hgc]; exact hb.size, by omega, hne, by omega⟩⟩
  clear hsz1 hI0 hb1
  clear hn hb0 hi hb hk hr2 hr3 hne hlt hlr hn3 hb3
  go_wp2_with fail

  clear hgc
  have G := G0
  clear G0
  (with_reducible refine (primerref01_Int.calls 25 (w.heap.size + 1) s0 e0 line s1 e1 w _ G.out.isRef G.out.b (by rw [ref_Int_eq s0 e0 SZ.out.2.1 25 (by omega), H1.out])).mono ?_)
  rintro e wv1 ⟨rfl, hi, hb, hk⟩
  have G' := Aside0.mk (G.out.call hi.1 hb hk)
  have hz : wv1.cell? ⟨gc, 1, none⟩ = some (.int .i64 0) := (blk_cell G'.out.c 1).trans rfl
  have hf : wv1.frozen? ⟨gc, 1, none⟩ = false := blk_frozen G'.out.c 1
  have G'' : Aside0 (GetSt w (wv1.setCell ⟨gc, 1, none⟩ (.int .i64 line)) w.heap.size (w.heap.size + 1) gc 48 116 s1 e1 #[.int .i64 code, .int .i64 line, .int .i64 0, .int .i64 0, .string ⟨#[]⟩, .slice none 0 0, .slice none 0 0] #[.int .i64 0, .int .i64 0, .int .i64 0, .int .i64 0, .string ⟨#[]⟩, .slice none 0 0, .slice none 0 0]) := ⟨G'.out.store 1 (.int .i64 line)⟩
  clear hi hb hk G
  have G := G''
  clear G'' G'
  go_wp2_with fail
  clear hz hf
  (with_reducible refine (primerref01_Int.calls 25 (w.heap.size + 1) s1 e1 col s2 e2 w _ G.out.isRef G.out.b (by rw [ref_Int_eq s1 e1 SZ.out.2.2.1 25 (by omega), H2.out])).mono ?_)
  rintro e wv2 ⟨rfl, hi, hb, hk⟩
  have G' := Aside0.mk (G.out.call hi.1 hb hk)
  have hz : wv2.cell? ⟨gc, 2, none⟩ = some (.int .i64 0) := (blk_cell G'.out.c 2).trans rfl
  have hf : wv2.frozen? ⟨gc, 2, none⟩ = false := blk_frozen G'.out.c 2
  have G'' : Aside0 (GetSt w (wv2.setCell ⟨gc, 2, none⟩ (.int .i64 col)) w.heap.size (w.heap.size + 1) gc 48 116 s2 e2 #[.int .i64 code, .int .i64 line, .int .i64 col, .int .i64 0, .string ⟨#[]⟩, .slice none 0 0, .slice none 0 0] #[.int .i64 0, .int .i64 0, .int .i64 0, .int .i64 0, .string ⟨#[]⟩, .slice none 0 0, .slice none 0 0]) := ⟨G'.out.store 2 (.int .i64 col)⟩
  clear hi hb hk G
  have G := G''
  clear G'' G'
  go_wp2_with fail
  clear hz hf
  (with_reducible refine (primerref01_Int.calls 25 (w.heap.size + 1) s2 e2 cnt s3 e3 w _ G.out.isRef G.out.b (by rw [ref_Int_eq s2 e2 SZ.out.2.2.2.1 25 (by omega), H3.out])).mono ?_)
  rintro e wv3 ⟨rfl, hi, hb, hk⟩
  have G' := Aside0.mk (G.out.call hi.1 hb hk)
  have hz : wv3.cell? ⟨gc, 3, none⟩ = some (.int .i64 0) := (blk_cell G'.out.c 3).trans rfl
  have hf : wv3.frozen? ⟨gc, 3, none⟩ = false := blk_frozen G'.out.c 3
  have G'' : Aside0 (GetSt w (wv3.setCell ⟨gc, 3, none⟩ (.int .i64 cnt)) w.heap.size (w.heap.size + 1) gc 48 116 s3 e3 #[.int .i64 code, .int .i64 line, .int .i64 col, .int .i64 cnt, .string ⟨#[]⟩, .slice none 0 0, .slice none 0 0] #[.int .i64 0, .int .i64 0, .int .i64 0, .int .i64 0, .string ⟨#[]⟩, .slice none 0 0, .slice none 0 0]) := ⟨G'.out.store 3 (.int .i64 cnt)⟩
  clear hi hb hk G
  have G := G''
  clear G'' G'
  go_wp2_with fail
  clear hz hf
  (with_reducible refine (primerref01_Text.calls 31 (w.heap.size + 1) s3 e3 tx s4 e4 w _ G.out.isRef G.out.b (by rw [ref_Text_eq s3 e3 SZ.out.2.2.2.2.1 31 (by omega), H4.out])).mono ?_)
  rintro e wv4 ⟨rfl, hi, hb, hk⟩
  have G' := Aside0.mk (G.out.call hi.1 hb hk)
  have hz : wv4.cell? ⟨gc, 4, none⟩ = some (.string ⟨#[]⟩) := (blk_cell G'.out.c 4).trans rfl
  have hf : wv4.frozen? ⟨gc, 4, none⟩ = false := blk_frozen G'.out.c 4
  have G'' : Aside0 (GetSt w (wv4.setCell ⟨gc, 4, none⟩ (.string tx)) w.heap.size (w.heap.size + 1) gc 48 116 s4 e4 #[.int .i64 code, .int .i64 line, .int .i64 col, .int .i64 cnt, .string tx, .slice none 0 0, .slice none 0 0] #[.int .i64 0, .int .i64 0, .int .i64 0, .int .i64 0, .string ⟨#[]⟩, .slice none 0 0, .slice none 0 0]) := ⟨G'.out.store 4 (.string tx)⟩
  clear hi hb hk G
  have G := G''
  clear G'' G'
  go_wp2_with fail
  clear hz hf
  (with_reducible refine (primerref01_Texts.calls 65575 (w.heap.size + 1) s4 e4 4096 ts s5 e5 w _ G.out.isRef G.out.b (by rw [ref_Texts_eq s4 e4 4096 SZ.out.2.2.2.2.2.1 65575 (by omega), H5.out])).mono ?_)
  rintro e wv5 ⟨v0, rfl, hR, hi, hb, hk⟩
  obtain ⟨A, cap, ha, hcap, _⟩ := Kd.R_reads hR
  subst ha
  have hO : ∃ bb, wv5.ownsRow bb 9 1 (.slice A ts.length cap) ts.length (encs Value.string ts) := ⟨_, Kd.own_of_R hR⟩
  obtain ⟨b5, hO⟩ := hO
  have G' := Aside0.mk (G.out.call hi.1 hb hk)
  have hz : wv5.cell? ⟨gc, 5, none⟩ = some (.slice none 0 0) := (blk_cell G'.out.c 5).trans rfl
  have hf : wv5.frozen? ⟨gc, 5, none⟩ = false := blk_frozen G'.out.c 5
  have G'' : Aside0 (GetSt w (wv5.setCell ⟨gc, 5, none⟩ (.slice A ts.length cap)) w.heap.size (w.heap.size + 1) gc 48 116 s5 e5 #[.int .i64 code, .int .i64 line, .int .i64 col, .int .i64 cnt, .string tx, .slice A ts.length cap, .slice none 0 0] #[.int .i64 0, .int .i64 0, .int .i64 0, .int .i64 0, .string ⟨#[]⟩, .slice none 0 0, .slice none 0 0]) := ⟨G'.out.store 5 (.slice A ts.length cap)⟩
  have HT := Aside0.mk (own_same hO (SameT.set_ G'.out.c (by decide) 5 (.slice A ts.length cap)))
  clear hi hb hk G hR hO
  have G := G''
  clear G'' G'
  go_wp2_with fail
  clear hz hf
  (with_reducible refine (primerref01_Texts.calls 65575 (w.heap.size + 1) s5 e5 4096 l s6 e6 w _ G.out.isRef G.out.b (by rw [ref_Texts_eq s5 e5 4096 SZ.out.2.2.2.2.2.2 65575 (by omega), H6.out])).mono ?_)
  rintro e wv6 ⟨v0, rfl, hR, hi, hb, hk⟩
  obtain ⟨B, capl, ha, hcapl, _⟩ := Kd.R_reads hR
  subst ha
  have hO : ∃ bb, wv6.ownsRow bb 9 1 (.slice B l.length capl) l.length (encs Value.string l) := ⟨_, Kd.own_of_R hR⟩
  obtain ⟨b6, hO⟩ := hO
  have HT6 := Aside0.mk (own_same HT.out (SameT.keep hk G.out.i (by decide)))
  have HL6 := Aside0.mk hO
  have G' := Aside0.mk (G.out.call hi.1 hb hk)
  clear hi hb hk G hR hO HT
  have G := G'
  clear G'
  have zr0 : wv6.cell? ⟨w.heap.size, 0, none⟩ = some (.int .i64 0) := (blk_cell G.out.r 0).trans rfl
  have fr0 : wv6.frozen? ⟨w.heap.size, 0, none⟩ = false := blk_frozen G.out.r 0
  have zr1 : wv6.cell? ⟨w.heap.size, 1, none⟩ = some (.int .i64 0) := (blk_cell G.out.r 1).trans rfl
  have fr1 : wv6.frozen? ⟨w.heap.size, 1, none⟩ = false := blk_frozen G.out.r 1
  have zr2 : wv6.cell? ⟨w.heap.size, 2, none⟩ = some (.int .i64 0) := (blk_cell G.out.r 2).trans rfl
  have fr2 : wv6.frozen? ⟨w.heap.size, 2, none⟩ = false := blk_frozen G.out.r 2
  have zr3 : wv6.cell? ⟨w.heap.size, 3, none⟩ = some (.int .i64 0) := (blk_cell G.out.r 3).trans rfl
  have fr3 : wv6.frozen? ⟨w.heap.size, 3, none⟩ = false := blk_frozen G.out.r 3
  have zr4 : wv6.cell? ⟨w.heap.size, 4, none⟩ = some (.string ⟨#[]⟩) := (blk_cell G.out.r 4).trans rfl
  have fr4 : wv6.frozen? ⟨w.heap.size, 4, none⟩ = false := blk_frozen G.out.r 4
  have zr5 : wv6.cell? ⟨w.heap.size, 5, none⟩ = some (.slice none 0 0) := (blk_cell G.out.r 5).trans rfl
  have fr5 : wv6.frozen? ⟨w.heap.size, 5, none⟩ = false := blk_frozen G.out.r 5
  have zr6 : wv6.cell? ⟨w.heap.size, 6, none⟩ = some (.slice none 0 0) := (blk_cell G.out.r 6).trans rfl
  have fr6 : wv6.frozen? ⟨w.heap.size, 6, none⟩ = false := blk_frozen G.out.r 6
  have zi0 : wv6.cell? ⟨(w.heap.size + 1), 0, none⟩ = some (.string s6) := (blk_cell G.out.i 0).trans rfl
  have zi1 : wv6.cell? ⟨(w.heap.size + 1), 1, none⟩ = some (.int .i64 e6) := (blk_cell G.out.i 1).trans rfl
  have zc0 : wv6.cell? ⟨gc, 0, none⟩ = some (.int .i64 code) := (blk_cell G.out.c 0).trans rfl
  by_cases he : e6 = 0
  rotate_left
  · have he2 : (e6 != 0) = true := by rw [bne_iff_ne]; exact he
    have he3 : (e6 == 0) = false := by rw [beq_eq_false_iff_ne]; exact he
    have HTT : Aside0 (getR s = (zeroR, e6)) := ⟨by unfold getR; rw [HQ.out.2.2.2.1]; exact if_pos he⟩
    go_wp2_with fail
    go_region
    go_wp2
    (try simp only [Exit.inBlock, Exit.then])
    refine bodyPost_ret (results_ct rfl _ _ w.heap.size 48 #[.int .i64 0, .int .i64 0, .int .i64 0, .int .i64 0, .string ⟨#[]⟩, .slice none 0 0, .slice none 0 0] (0, 0) _ rfl (blk_drew (put7 G.out.r _ _ _ _ _ _ _)) Try.underlying48 rfl (by kernel_rfl)) rfl ?_
    exact toldR_z HTT.out (below_drew (put7_below G.out.b (Nat.le_refl _) _ _ _ _ _ _ _))
  subst he
  by_cases hc0 : code < 0
  · have d1 : decide (code < 0) = true := by simp; omega
    have HTT : Aside0 (getR s = (zeroR, 2)) := ⟨by unfold getR; rw [HQ.out.2.2.2.1, HQ.out.1, if_neg (by simp), if_pos (.inl hc0)]⟩
    clear hc0
    go_wp2_with (fail)
    (try simp only [Exit.inBlock, Exit.then])
    refine bodyPost_ret (results_ct rfl _ _ w.heap.size 48 #[.int .i64 0, .int .i64 0, .int .i64 0, .int .i64 0, .string ⟨#[]⟩, .slice none 0 0, .slice none 0 0] (0, 0) _ rfl (put7 G.out.r _ _ _ _ _ _ _) Try.underlying48 rfl (by kernel_rfl)) rfl ?_
    exact toldR_z HTT.out (put7_below G.out.b (Nat.le_refl _) _ _ _ _ _ _ _)
  have d1 : decide (code < 0) = false := by simp; omega
  by_cases hc1 : 20 < code
  · have d2 : decide (20 < code) = true := by simp; omega
    have HTT : Aside0 (getR s = (zeroR, 2)) := ⟨by unfold getR; rw [HQ.out.2.2.2.1, HQ.out.1, if_neg (by simp), if_pos (.inr hc1)]⟩
    clear hc0 hc1
    go_wp2_with (fail)
    (try simp only [Exit.inBlock, Exit.then])
    refine bodyPost_ret (results_ct rfl _ _ w.heap.size 48 #[.int .i64 0, .int .i64 0, .int .i64 0, .int .i64 0, .string ⟨#[]⟩, .slice none 0 0, .slice none 0 0] (0, 0) _ rfl (put7 G.out.r _ _ _ _ _ _ _) Try.underlying48 rfl (by kernel_rfl)) rfl ?_
    exact toldR_z HTT.out (put7_below G.out.b (Nat.le_refl _) _ _ _ _ _ _ _)
  have d2 : decide (20 < code) = false := by simp; omega
  have HGR : Aside0 (getR s = if badMs l then (zeroR, 2) else if s6.size = 0 then (⟨code, line, col, cnt, tx, ts, valMs l⟩, 0) else (zeroR, 4)) := ⟨by
    unfold getR; rw [HQ.out.2.2.2.1, HQ.out.1, HQ.out.2.1, HQ.out.2.2.1, HQ.out.2.2.2.2.1, HQ.out.2.2.2.2.2.1, HQ.out.2.2.2.2.2.2.1, HQ.out.2.2.2.2.2.2.2.1, HQ.out.2.2.2.2.2.2.2.2, if_neg (by simp), if_neg (by omega)]⟩
  have LL : Aside0 (l.length ≤ 65536) := ⟨by have h := inSeq_len (fun s => inText s 0) s5 e5 4096; have h6 := H6.out; unfold inTexts at h6; rw [h6] at h; exact h⟩
  clear hc0 hc1
  go_wp2_with (fail)
  clear zr0 fr0 zr1 fr1 zr2 fr2 zr3 fr3 zr4 fr4 zr5 fr5 zr6 fr6 zi0 zi1 zc0
  go_loopw [7] (fun i wr => ∃ j : Nat, j ≤ l.length ∧ i = .int .i64 j ∧ Aside0 (badMs (l.take j) = false) ∧ ∃ M capm, Aside0 (GetSt w (wr) w.heap.size (w.heap.size + 1) gc 48 116 s6 0 #[.int .i64 code, .int .i64 line, .int .i64 col, .int .i64 cnt, .string tx, .slice A ts.length cap, .slice M j capm] #[.int .i64 0, .int .i64 0, .int .i64 0, .int .i64 0, .string ⟨#[]⟩, .slice none 0 0, .slice none 0 0]) ∧ Aside0 (wr.ownsRow w.heap.size 120 1 (.slice M j capm) j (encs (Value.float .f64) (valMs (l.take j)))) ∧ Aside0 (wr.ownsRow b5 9 1 (.slice A ts.length cap) ts.length (encs Value.string ts)) ∧ Aside0 (wr.ownsRow b6 9 1 (.slice B l.length capl) l.length (encs Value.string l))) (fun i _ => l.length - (intOf i).toNat)
  case atStart => exact ⟨0, Nat.zero_le _, rfl, ⟨rfl⟩, none, 0, ⟨G.out⟩, ⟨own_nil _ _ _ _⟩, HT6, HL6⟩
  case round =>
    obtain ⟨j, hj, rfl, HBM, M, capm, HG, HF, HTS, HLS⟩ := hrel
    clear G HT6 HL6
    have G := HG
    clear HG
    have zr0 : wr.cell? ⟨w.heap.size, 0, none⟩ = some (.int .i64 0) := (blk_cell G.out.r 0).trans rfl
    have fr0 : wr.frozen? ⟨w.heap.size, 0, none⟩ = false := blk_frozen G.out.r 0
    have zr1 : wr.cell? ⟨w.heap.size, 1, none⟩ = some (.int .i64 0) := (blk_cell G.out.r 1).trans rfl
    have fr1 : wr.frozen? ⟨w.heap.size, 1, none⟩ = false := blk_frozen G.out.r 1
    have zr2 : wr.cell? ⟨w.heap.size, 2, none⟩ = some (.int .i64 0) := (blk_cell G.out.r 2).trans rfl
    have fr2 : wr.frozen? ⟨w.heap.size, 2, none⟩ = false := blk_frozen G.out.r 2
    have zr3 : wr.cell? ⟨w.heap.size, 3, none⟩ = some (.int .i64 0) := (blk_cell G.out.r 3).trans rfl
    have fr3 : wr.frozen? ⟨w.heap.size, 3, none⟩ = false := blk_frozen G.out.r 3
    have zr4 : wr.cell? ⟨w.heap.size, 4, none⟩ = some (.string ⟨#[]⟩) := (blk_cell G.out.r 4).trans rfl
    have fr4 : wr.frozen? ⟨w.heap.size, 4, none⟩ = false := blk_frozen G.out.r 4
    have zr5 : wr.cell? ⟨w.heap.size, 5, none⟩ = some (.slice none 0 0) := (blk_cell G.out.r 5).trans rfl
    have fr5 : wr.frozen? ⟨w.heap.size, 5, none⟩ = false := blk_frozen G.out.r 5
    have zr6 : wr.cell? ⟨w.heap.size, 6, none⟩ = some (.slice none 0 0) := (blk_cell G.out.r 6).trans rfl
    have fr6 : wr.frozen? ⟨w.heap.size, 6, none⟩ = false := blk_frozen G.out.r 6
    have zc6 : wr.cell? ⟨gc, 6, none⟩ = some (.slice M j capm) := (blk_cell G.out.c 6).trans rfl
    have fc6 : wr.frozen? ⟨gc, 6, none⟩ = false := blk_frozen G.out.c 6
    have hmx := (own_C HLS.out).1.2.1
    by_cases hjn : j < l.length
    · obtain ⟨ad, rfl, hcell⟩ := C_str (own_C HLS.out).1 j hjn
      have hd : decide ((j : Int) < (l.length : Int)) = true := by simp; omega
      obtain ⟨x, hxx⟩ : ∃ x, l[j] = x := ⟨_, rfl⟩
      rw [hxx] at hcell
      have HTK := Aside0.mk (show l.take (j + 1) = l.take j ++ [x] from by rw [List.take_succ_eq_append_getElem hjn, hxx])
      have HJL := Aside0.mk (show (valMs (l.take j)).length = j from by unfold valMs; rw [List.length_map, List.length_take]; omega)
      have HL1 : ∀ n : Nat, Aside0 ((valMs (l.take j) ++ [n]).length = j + 1) := fun n => ⟨by rw [List.length_append, HJL.out]; rfl⟩
      have HMEM := Aside0.mk (show x ∈ l from by rw [← hxx]; exact List.getElem_mem hjn)
      clear hxx
      obtain ⟨n, em, hgm⟩ : ∃ n em, getM x = (n, em) := ⟨_, _, rfl⟩
      have HGM := Aside0.mk hgm
      have HL1 := HL1 n
      clear hgm
      by_cases h0 : em = 0
      · subst h0
        go_wp2_with fail
        (with_reducible refine (mget2_calls x _).mono ?_)
        rintro e w4 ⟨rfl, hb4⟩
        rw [HGM.out]
        have G4 := Aside0.mk (G.out.quiet hb4)
        have HF4 := Aside0.mk (pw_own_below HF.out hb4)
        have HT4 := Aside0.mk (pw_own_below HTS.out hb4)
        have HL4 := Aside0.mk (pw_own_below HLS.out hb4)
        clear hb4 G HF HTS HLS zc6 fc6 hcell zr0 fr0 zr1 fr1 zr2 fr2 zr3 fr3 zr4 fr4 zr5 fr5 zr6 fr6
        have G := G4
        have HF := HF4
        have HTS := HT4
        have HLS := HL4
        clear G4 HF4 HT4 HL4
        have zc6 : w4.cell? ⟨gc, 6, none⟩ = some (.slice M j capm) := (blk_cell G.out.c 6).trans rfl
        have fc6 : w4.frozen? ⟨gc, 6, none⟩ = false := blk_frozen G.out.c 6
        go_wp2_with (at_builtin; (refine print_append_of (w0 := w) (Value.float .f64) w.heap.size rfl (.tmp 70) (.tmp 72) 42 120 (.float .f64 0) 8 rfl Try.underlying42 info120 rfl (by decide) _ (valMs (l.take j)) n rfl rfl rfl (own_len HF.out HJL.out.symm) G.out.b G.out.b.size (by have := HJL.out; have := LL.out; omega) ?_); intro v5' w5 ho hbl hg _; rw [HL1.out] at ho; obtain ⟨M2, capm2, rfl, _⟩ := own_reads_of (d := (0 : Nat)) ho; have SC := Aside0.mk (SameT.grown hg HF.out (show 48 ≠ 120 from by decide)); have SI := Aside0.mk (SameT.grown hg HF.out (show 116 ≠ 120 from by decide)); have SS := Aside0.mk (SameT.grown hg HF.out (show 9 ≠ 120 from by decide)); have G5 := Aside0.mk (G.out.moved SC.out SI.out hbl); have HF5 := Aside0.mk ho; have HT5 := Aside0.mk (own_same HTS.out SS.out); have HL5 := Aside0.mk (own_same HLS.out SS.out); clear ho hbl hg SC SI SS zc6 fc6; have zc6 : w5.cell? ⟨gc, 6, none⟩ = some (.slice M j capm) := (blk_cell G5.out.c 6).trans rfl; have fc6 : w5.frozen? ⟨gc, 6, none⟩ = false := blk_frozen G5.out.c 6)
        go_roundw
        case rel =>
          have hval : valMs (l.take (j + 1)) = valMs (l.take j) ++ [n] := by rw [HTK.out]; unfold valMs; rw [List.map_append, List.map_cons, List.map_nil, HGM.out]
          have hbad : badMs (l.take (j + 1)) = false := by
            rw [HTK.out]
            have h := HBM.out
            unfold badMs at h ⊢
            rw [List.any_append, h]
            simp [HGM.out]
          refine ⟨j + 1, by omega, by go_num, ⟨hbad⟩, M2, capm2, ?_, ?_, ?_, ?_⟩
          · exact ⟨G5.out.store 6 (.slice M2 (j + 1) capm2)⟩
          · rw [hval]; exact ⟨own_same HF5.out (SameT.set_ G5.out.c (by decide) 6 _)⟩
          · exact ⟨own_same HT5.out (SameT.set_ G5.out.c (by decide) 6 _)⟩
          · exact ⟨own_same HL5.out (SameT.set_ G5.out.c (by decide) 6 _)⟩
        case measure => simp [intOf]; omega
      · have h1 : (em != 0) = true := by rw [bne_iff_ne]; exact h0
        have h2 : (em == 0) = false := by rw [beq_eq_false_iff_ne]; exact h0
        have HTT : Aside0 (getR s = (zeroR, 2)) := ⟨by
          rw [HGR.out, if_pos]
          unfold badMs
          rw [List.any_eq_true]
          exact ⟨x, HMEM.out, by rw [HGM.out]; simp [h0]⟩⟩
        clear h0
        go_wp2_with fail
        (with_reducible refine (mget2_calls x _).mono ?_)
        rintro e w4 ⟨rfl, hb4⟩
        rw [HGM.out]
        have G4 := Aside0.mk (G.out.quiet hb4)
        have HF4 := Aside0.mk (pw_own_below HF.out hb4)
        have HT4 := Aside0.mk (pw_own_below HTS.out hb4)
        have HL4 := Aside0.mk (pw_own_below HLS.out hb4)
        clear hb4 G HF HTS HLS zc6 fc6 hcell zr0 fr0 zr1 fr1 zr2 fr2 zr3 fr3 zr4 fr4 zr5 fr5 zr6 fr6
        have G := G4
        have HF := HF4
        have HTS := HT4
        have HLS := HL4
        clear G4 HF4 HT4 HL4
        have zc6 : w4.cell? ⟨gc, 6, none⟩ = some (.slice M j capm) := (blk_cell G.out.c 6).trans rfl
        have fc6 : w4.frozen? ⟨gc, 6, none⟩ = false := blk_frozen G.out.c 6
        have zr0 : w4.cell? ⟨w.heap.size, 0, none⟩ = some (.int .i64 0) := (blk_cell G.out.r 0).trans rfl
        have fr0 : w4.frozen? ⟨w.heap.size, 0, none⟩ = false := blk_frozen G.out.r 0
        have zr1 : w4.cell? ⟨w.heap.size, 1, none⟩ = some (.int .i64 0) := (blk_cell G.out.r 1).trans rfl
        have fr1 : w4.frozen? ⟨w.heap.size, 1, none⟩ = false := blk_frozen G.out.r 1
        have zr2 : w4.cell? ⟨w.heap.size, 2, none⟩ = some (.int .i64 0) := (blk_cell G.out.r 2).trans rfl
        have fr2 : w4.frozen? ⟨w.heap.size, 2, none⟩ = false := blk_frozen G.out.r 2
        have zr3 : w4.cell? ⟨w.heap.size, 3, none⟩ = some (.int .i64 0) := (blk_cell G.out.r 3).trans rfl
        have fr3 : w4.frozen? ⟨w.heap.size, 3, none⟩ = false := blk_frozen G.out.r 3
        have zr4 : w4.cell? ⟨w.heap.size, 4, none⟩ = some (.string ⟨#[]⟩) := (blk_cell G.out.r 4).trans rfl
        have fr4 : w4.frozen? ⟨w.heap.size, 4, none⟩ = false := blk_frozen G.out.r 4
        have zr5 : w4.cell? ⟨w.heap.size, 5, none⟩ = some (.slice none 0 0) := (blk_cell G.out.r 5).trans rfl
        have fr5 : w4.frozen? ⟨w.heap.size, 5, none⟩ = false := blk_frozen G.out.r 5
        have zr6 : w4.cell? ⟨w.heap.size, 6, none⟩ = some (.slice none 0 0) := (blk_cell G.out.r 6).trans rfl
        have fr6 : w4.frozen? ⟨w.heap.size, 6, none⟩ = false := blk_frozen G.out.r 6
        go_wp2
        (try simp only [Exit.inBlock, Exit.then])
        refine bodyPost_ret (results_ct rfl _ _ w.heap.size 48 #[.int .i64 0, .int .i64 0, .int .i64 0, .int .i64 0, .string ⟨#[]⟩, .slice none 0 0, .slice none 0 0] (0, 0) _ rfl (put7 G.out.r _ _ _ _ _ _ _) Try.underlying48 rfl (by kernel_rfl)) rfl ?_
        exact toldR_z HTT.out (put7_below G.out.b (Nat.le_refl _) _ _ _ _ _ _ _)
    · obtain rfl : l.length = j := by omega
      have hd : decide ((l.length : Int) < (l.length : Int)) = false := by simp
      have hbm := HBM.out
      have hf := HF.out
      rw [List.take_length] at hbm hf
      have HBF := Aside0.mk hbm
      have HF2 := Aside0.mk hf
      have HVL := Aside0.mk (show (valMs l).length = l.length from by unfold valMs; rw [List.length_map])
      clear hbm hf HBM HF hjn
      have zc0 : wr.cell? ⟨gc, 0, none⟩ = some (.int .i64 code) := (blk_cell G.out.c 0).trans rfl
      have zc1 : wr.cell? ⟨gc, 1, none⟩ = some (.int .i64 line) := (blk_cell G.out.c 1).trans rfl
      have zc2 : wr.cell? ⟨gc, 2, none⟩ = some (.int .i64 col) := (blk_cell G.out.c 2).trans rfl
      have zc3 : wr.cell? ⟨gc, 3, none⟩ = some (.int .i64 cnt) := (blk_cell G.out.c 3).trans rfl
      have zc4 : wr.cell? ⟨gc, 4, none⟩ = some (.string tx) := (blk_cell G.out.c 4).trans rfl
      have zc5 : wr.cell? ⟨gc, 5, none⟩ = some (.slice A ts.length cap) := (blk_cell G.out.c 5).trans rfl
      have zc6 : wr.cell? ⟨gc, 6, none⟩ = some (.slice M l.length capm) := (blk_cell G.out.c 6).trans rfl
      have zi0 : wr.cell? ⟨(w.heap.size + 1), 0, none⟩ = some (.string s6) := (blk_cell G.out.i 0).trans rfl
      have zi1 : wr.cell? ⟨(w.heap.size + 1), 1, none⟩ = some (.int .i64 0) := (blk_cell G.out.i 1).trans rfl
      by_cases hz6 : s6.size = 0
      · have HTT : Aside0 (getR s = (⟨code, line, col, cnt, tx, ts, valMs l⟩, 0)) := ⟨by rw [HGR.out, HBF.out, if_neg (by simp), if_pos hz6]⟩
        have HEN : Aside0 (inEnd s6 0 = 0) := ⟨by unfold inEnd; rw [if_pos rfl, if_pos hz6]⟩
        have m1 : (s6.toList == ([] : List UInt8)) = true := by rw [beq_iff_eq]; exact (toList_nil_iff s6).mpr hz6
        have m2 : s6.toList.isEmpty = true := by rw [(toList_nil_iff s6).mpr hz6]; rfl
        clear hz6
        go_wp2_with (fail)
        (try simp only [Exit.inBlock, Exit.then])
        refine bodyPost_ret (results_ct rfl _ _ w.heap.size 48 #[.int .i64 code, .int .i64 line, .int .i64 col, .int .i64 cnt, .string tx, .slice A ts.length cap, .slice M l.length capm] (0, 0) _ rfl (put7 G.out.r _ _ _ _ _ _ _) Try.underlying48 rfl (by kernel_rfl)) rfl ?_
        exact toldR_ok HTT.out HVL.out (own_same HTS.out (put7_same G.out.r (by decide) _ _ _ _ _ _ _)) (own_same HF2.out (put7_same G.out.r (by decide) _ _ _ _ _ _ _)) (put7_below G.out.b (Nat.le_refl _) _ _ _ _ _ _ _)
      · have HTT : Aside0 (getR s = (zeroR, 4)) := ⟨by rw [HGR.out, HBF.out, if_neg (by simp), if_neg hz6]⟩
        have HEN : Aside0 (inEnd s6 0 = 4) := ⟨by unfold inEnd; rw [if_pos rfl, if_neg hz6]⟩
        have m1 : (s6.toList == ([] : List UInt8)) = false := by rw [beq_eq_false_iff_ne]; exact fun h => hz6 ((toList_nil_iff s6).mp h)
        have m2 : s6.toList.isEmpty = false := isEmpty_false hz6
        clear hz6
        go_wp2_with (fail)
        (try simp only [Exit.inBlock, Exit.then])
        refine bodyPost_ret (results_ct rfl _ _ w.heap.size 48 #[.int .i64 0, .int .i64 0, .int .i64 0, .int .i64 0, .string ⟨#[]⟩, .slice none 0 0, .slice none 0 0] (0, 0) _ rfl (put7 G.out.r _ _ _ _ _ _ _) Try.underlying48 rfl (by kernel_rfl)) rfl ?_
        exact toldR_z HTT.out (put7_below G.out.b (Nat.le_refl _) _ _ _ _ _ _ _)
end Go.Proofs.Ytnajmemcdipknaa.PK
namespace Go.Proofs.Ytnajmemcdipknaa.PK
open Go.RowKit Go.Proofs.YtnajmemcdipknaaW.PrintWords Go.Proofs.YtnajmemcdipknaaW.PrintLast Go.Proofs.YtnajmemcdipknaaW.PrintMore
open Go.ChangeShapes Go.WideShapes
set_option linter.unusedVariables false
set_option linter.unusedSimpArgs false
set_option maxRecDepth 100000
theorem rdOf_get (xs : List ByteArray) (i : Nat) (h : i < xs.length) : rdOf ByteArray.empty xs (i : Int) = xs[i] := by
  unfold rdOf
  rw [Int.toNat_natCast, List.getD_eq_getElem?_getD, List.getElem?_eq_getElem h]
  rfl
theorem texts21_l0 (xs ys : List ByteArray) (hl : xs.length = ys.length) (hb : xs.length ≤ 9223372036854775807) (r : Nat) : ∀ (k i : Nat), i + r = xs.length → r < k → PC.primerlaw21_texts.l0 k xs ys i = some (decide (xs.drop i = ys.drop i)) := by
  induction r with
  | zero =>
    intro k i h1 hk
    obtain ⟨k, rfl⟩ : ∃ j, k = j + 1 := ⟨k - 1, by omega⟩
    simp only [PC.primerlaw21_texts.l0]
    rw [if_neg (by omega), List.drop_of_length_le (by omega), List.drop_of_length_le (by omega)]
    simp
  | succ r ih =>
    intro k i h1 hk
    obtain ⟨k, rfl⟩ : ∃ j, k = j + 1 := ⟨k - 1, by omega⟩
    simp only [PC.primerlaw21_texts.l0]
    rw [if_pos (by omega), if_pos (by omega), if_pos (by omega), rdOf_get xs i (by omega), rdOf_get ys i (by omega), w64 _ (by omega) (by omega), List.drop_eq_getElem_cons (show i < xs.length by omega), List.drop_eq_getElem_cons (show i < ys.length by omega)]
    by_cases h : xs[i]'(by omega) = ys[i]'(by omega)
    · rw [if_pos ((toList_iff _ _).mpr h), show ((i : Int) + 1) = ((i + 1 : Nat) : Int) from rfl, ih k (i + 1) (by omega) (by omega), h, Option.some.injEq, decide_eq_decide, List.cons.injEq, eq_self_iff_true, true_and]
    · rw [if_neg (fun e => h ((toList_iff _ _).mp e)), Option.some.injEq, eq_comm, decide_eq_false_iff_not]
      exact fun e => h (List.cons.inj e).1
theorem texts21_eq (xs ys : List ByteArray) (hb : xs.length ≤ 9223372036854775807) (k : Nat) (hk : xs.length < k) : PC.primerlaw21_texts.f k xs ys = some (decide (xs = ys)) := by
  unfold PC.primerlaw21_texts.f
  by_cases hl : xs.length = ys.length
  · rw [if_pos (by omega)]
    have := texts21_l0 xs ys hl hb xs.length k 0 (by omega) hk
    rw [show ((0 : Nat) : Int) = 0 from rfl, List.drop_zero, List.drop_zero] at this
    exact this
  · rw [if_neg (by omega)]
    have : ¬ xs = ys := fun h => hl (by rw [h])
    simp [this]
end Go.Proofs.Ytnajmemcdipknaa.PK
namespace Go.Proofs.Ytnajmemcdipknaa.PK
open Go.RowKit Go.Proofs.YtnajmemcdipknaaW.PrintWords Go.Proofs.YtnajmemcdipknaaW.PrintLast Go.Proofs.YtnajmemcdipknaaW.PrintMore
open Go.ChangeShapes Go.WideShapes
set_option linter.unusedVariables false
set_option linter.unusedSimpArgs false
set_option maxRecDepth 100000
def alikeV (x y : RepV) : Bool := (x.code == y.code) && (x.line == y.line) && (x.col == y.col) && (x.cnt == y.cnt) && decide (x.tx.toList = y.tx.toList) && decide (x.ts = y.ts) && decide (x.ms.map putM = y.ms.map putM)
theorem alikeV_refl (x : RepV) : alikeV x x = true := by simp [alikeV]
theorem four_cells {W W' : World} {a b c d : Addr} {u v x y : Value} (h : Below W.heap.size W W') (h1 : W.cell? a = some u) (h2 : W.cell? b = some v) (h3 : W.cell? c = some x) (h4 : W.cell? d = some y) : W'.cell? a = some u ∧ W'.cell? b = some v ∧ W'.cell? c = some x ∧ W'.cell? d = some y :=
  ⟨(h.cell (World.block_lt_of_cell? W _ h1)).trans h1, (h.cell (World.block_lt_of_cell? W _ h2)).trans h2, (h.cell (World.block_lt_of_cell? W _ h3)).trans h3, (h.cell (World.block_lt_of_cell? W _ h4)).trans h4⟩
set_option maxHeartbeats 6400000 in
theorem alike_calls (code line col cnt : Int) (tx : ByteArray) (A : Option Addr) (cap : Nat) (ts : List ByteArray) (M : Option Addr) (capm : Nat) (ms : List Nat) (code2 line2 col2 cnt2 : Int) (tx2 : ByteArray) (A2 : Option Addr) (cap2 : Nat) (ts2 : List ByteArray) (M2 : Option Addr) (capm2 : Nat) (ms2 : List Nat) (w : World)
    (hA : Kd.C Kd.string w A ts.length ts) (hca : ts.length ≤ cap) (hM : Kd.C kF w M ms.length ms) (hms : ∀ x ∈ ms, x < 18446744073709551616) (hB : Kd.C Kd.string w A2 ts2.length ts2) (hcb : ts2.length ≤ cap2) (hM2 : Kd.C kF w M2 ms2.length ms2) (hms2 : ∀ x ∈ ms2, x < 18446744073709551616) :
    Calls Try.prog 23 #[.agg #[.int .i64 code, .int .i64 line, .int .i64 col, .int .i64 cnt, .string tx, .slice A ts.length cap, .slice M ms.length capm], .agg #[.int .i64 code2, .int .i64 line2, .int .i64 col2, .int .i64 cnt2, .string tx2, .slice A2 ts2.length cap2, .slice M2 ms2.length capm2]] w fun e w' => e = .returned (.bool (alikeV ⟨code, line, col, cnt, tx, ts, ms⟩ ⟨code2, line2, col2, cnt2, tx2, ts2, ms2⟩)) ∧ Below w.heap.size w w' := by
  have hu := Try.underlying44
  have HM := Aside0.mk hA.2.1
  have HA := Aside0.mk hA
  have HCA := Aside0.mk hca
  have HB := Aside0.mk hB
  have HCB := Aside0.mk hcb
  have HMX := Aside0.mk hM
  have HMY := Aside0.mk hM2
  have HMS := Aside0.mk hms
  have HMS2 := Aside0.mk hms2
  clear hA hca hB hcb hM hM2 hms hms2
  have HW := Aside0.mk (below_alloc (below_alloc (Below.refl w.heap.size w) (.cells #[.int .i64 code, .int .i64 line, .int .i64 col, .int .i64 cnt, .string tx, .slice A ts.length cap, .slice M ms.length capm] 44)) (.cells #[.int .i64 code2, .int .i64 line2, .int .i64 col2, .int .i64 cnt2, .string tx2, .slice A2 ts2.length cap2, .slice M2 ms2.length capm2] 48))
  by_cases g0 : code = code2
  rotate_left
  · have e : (code != code2) = true := by rw [bne_iff_ne]; exact g0
    have HV : Aside0 (alikeV ⟨code, line, col, cnt, tx, ts, ms⟩ ⟨code2, line2, col2, cnt2, tx2, ts2, ms2⟩ = false) := ⟨by simp [alikeV, g0]⟩
    clear g0
    go_enter Try.func23, Try.ntmps23
    go_wp2
    go_ret
    exact ⟨by rw [HV.out]; rfl, HW.out⟩
  subst g0
  have q0 : (code != code) = false := by simp
  by_cases g1 : line = line2
  rotate_left
  · have e : (line != line2) = true := by rw [bne_iff_ne]; exact g1
    have HV : Aside0 (alikeV ⟨code, line, col, cnt, tx, ts, ms⟩ ⟨code, line2, col2, cnt2, tx2, ts2, ms2⟩ = false) := ⟨by simp [alikeV, g1]⟩
    clear g1
    go_enter Try.func23, Try.ntmps23
    go_wp2
    go_ret
    exact ⟨by rw [HV.out]; rfl, HW.out⟩
  subst g1
  have q1 : (line != line) = false := by simp
  by_cases g2 : col = col2
  rotate_left
  · have e : (col != col2) = true := by rw [bne_iff_ne]; exact g2
    have HV : Aside0 (alikeV ⟨code, line, col, cnt, tx, ts, ms⟩ ⟨code, line, col2, cnt2, tx2, ts2, ms2⟩ = false) := ⟨by simp [alikeV, g2]⟩
    clear g2
    go_enter Try.func23, Try.ntmps23
    go_wp2
    go_ret
    exact ⟨by rw [HV.out]; rfl, HW.out⟩
  subst g2
  have q2 : (col != col) = false := by simp
  by_cases g3 : cnt = cnt2
  rotate_left
  · have e : (cnt != cnt2) = true := by rw [bne_iff_ne]; exact g3
    have HV : Aside0 (alikeV ⟨code, line, col, cnt, tx, ts, ms⟩ ⟨code, line, col, cnt2, tx2, ts2, ms2⟩ = false) := ⟨by simp [alikeV, g3]⟩
    clear g3
    go_enter Try.func23, Try.ntmps23
    go_wp2
    go_ret
    exact ⟨by rw [HV.out]; rfl, HW.out⟩
  subst g3
  have q3 : (cnt != cnt) = false := by simp
  by_cases g4 : tx = tx2
  rotate_left
  · have e1 : (tx.toList == tx2.toList) = false := by rw [beq_eq_false_iff_ne, ne_eq, toList_iff]; exact g4
    have e2 : (tx.toList != tx2.toList) = true := by rw [bne_iff_ne, ne_eq, toList_iff]; exact g4
    have HV : Aside0 (alikeV ⟨code, line, col, cnt, tx, ts, ms⟩ ⟨code, line, col, cnt, tx2, ts2, ms2⟩ = false) := ⟨by simp [alikeV, toList_iff, g4]⟩
    clear g4
    go_enter Try.func23, Try.ntmps23
    go_wp2
    go_ret
    exact ⟨by rw [HV.out]; rfl, HW.out⟩
  subst g4
  have q4 : (tx.toList == tx.toList) = true := by simp
  have q5 : (tx.toList != tx.toList) = false := by simp
  by_cases g5 : ts = ts2
  rotate_left
  · have HT : Aside0 (PC.primerlaw21_texts.f (ts.length + 1) ts ts2 = some false) := ⟨by rw [texts21_eq ts ts2 HM.out _ (by omega)]; simp [g5]⟩
    have HV : Aside0 (alikeV ⟨code, line, col, cnt, tx, ts, ms⟩ ⟨code, line, col, cnt, tx, ts2, ms2⟩ = false) := ⟨by simp [alikeV, g5]⟩
    clear g5
    go_enter Try.func23, Try.ntmps23
    go_wp2_with (go_at_call 58; (with_reducible refine (PC.primerlaw21_texts.calls _ A cap ts A2 cap2 ts2 false _ (Kd.C_below HA.out HW.out) HCA.out (Kd.C_below HB.out HW.out) HCB.out HT.out).mono ?_); rintro e w' ⟨rfl, ⟨nd, rfl⟩⟩)
    go_ret
    exact ⟨by rw [HV.out]; rfl, pw_below_drewN HW.out _⟩
  subst g5
  have HT : Aside0 (PC.primerlaw21_texts.f (ts.length + 1) ts ts = some true) := ⟨by rw [texts21_eq ts ts HM.out _ (by omega)]; simp⟩
  by_cases g6 : ms.length = ms2.length
  rotate_left
  · have e : ((ms.length : Int) != (ms2.length : Int)) = true := by rw [bne_iff_ne]; omega
    have HV : Aside0 (alikeV ⟨code, line, col, cnt, tx, ts, ms⟩ ⟨code, line, col, cnt, tx, ts, ms2⟩ = false) := ⟨by
      have : ¬ (ms.map putM = ms2.map putM) := fun h => g6 (by have := congrArg List.length h; simpa using this)
      simp [alikeV, this]⟩
    clear g6
    go_enter Try.func23, Try.ntmps23
    go_wp2_with (go_at_call 58; (with_reducible refine (PC.primerlaw21_texts.calls _ A cap ts A2 cap2 ts true _ (Kd.C_below HA.out HW.out) HCA.out (Kd.C_below HB.out HW.out) HCB.out HT.out).mono ?_); rintro e w' ⟨rfl, ⟨nd, rfl⟩⟩)
    go_ret
    exact ⟨by rw [HV.out]; rfl, pw_below_drewN HW.out _⟩
  have e6 : ((ms.length : Int) != (ms2.length : Int)) = false := by rw [bne_eq_false_iff_eq]; omega
  have HL := Aside0.mk g6
  clear g6
  obtain ⟨xs, hxs⟩ : ∃ xs, ms.map putM = xs := ⟨_, rfl⟩
  obtain ⟨ys, hys⟩ : ∃ ys, ms2.map putM = ys := ⟨_, rfl⟩
  have HXS := Aside0.mk hxs
  have HYS := Aside0.mk hys
  have HV : Aside0 (alikeV ⟨code, line, col, cnt, tx, ts, ms⟩ ⟨code, line, col, cnt, tx, ts, ms2⟩ = decide (xs = ys)) := ⟨by rw [← hxs, ← hys]; simp [alikeV]⟩
  have hlx : xs.length = ms.length := by rw [← hxs, List.length_map]
  have hly : ys.length = ms.length := by rw [← hys, List.length_map, HL.out]
  have HLX := Aside0.mk hlx
  have HLY := Aside0.mk hly
  clear hxs hys hlx hly
  have HBX : Aside0 (((w.alloc (.cells #[.int .i64 code, .int .i64 line, .int .i64 col, .int .i64 cnt, .string tx, .slice A ts.length cap, .slice M ms.length capm] 44)).alloc (.cells #[.int .i64 code, .int .i64 line, .int .i64 col, .int .i64 cnt, .string tx, .slice A2 ts.length cap2, .slice M2 ms2.length capm2] 48)).heap[w.heap.size]? = some (.cells #[.int .i64 code, .int .i64 line, .int .i64 col, .int .i64 cnt, .string tx, .slice A ts.length cap, .slice M ms.length capm] 44 (0, 0))) := ⟨(heap_alloc_old _ _ (by simp)).trans (heap_new' rfl)⟩
  have HBY : Aside0 (((w.alloc (.cells #[.int .i64 code, .int .i64 line, .int .i64 col, .int .i64 cnt, .string tx, .slice A ts.length cap, .slice M ms.length capm] 44)).alloc (.cells #[.int .i64 code, .int .i64 line, .int .i64 col, .int .i64 cnt, .string tx, .slice A2 ts.length cap2, .slice M2 ms2.length capm2] 48)).heap[w.heap.size + 1]? = some (.cells #[.int .i64 code, .int .i64 line, .int .i64 col, .int .i64 cnt, .string tx, .slice A2 ts.length cap2, .slice M2 ms2.length capm2] 48 (0, 0))) := ⟨heap_new' (by simp)⟩
  go_enter Try.func23, Try.ntmps23
  go_wp2_with (go_at_call 58; (with_reducible refine (PC.primerlaw21_texts.calls _ A cap ts A2 cap2 ts true _ (Kd.C_below HA.out HW.out) HCA.out (Kd.C_below HB.out HW.out) HCB.out HT.out).mono ?_); rintro e w' ⟨rfl, ⟨nd, rfl⟩⟩)
  go_loopw [5] (fun i wr => ∃ j : Nat, j ≤ ms.length ∧ i = .int .i64 j ∧ Aside0 (xs.take j = ys.take j) ∧ Aside0 (Below ((w.alloc (.cells #[.int .i64 code, .int .i64 line, .int .i64 col, .int .i64 cnt, .string tx, .slice A ts.length cap, .slice M ms.length capm] 44)).alloc (.cells #[.int .i64 code, .int .i64 line, .int .i64 col, .int .i64 cnt, .string tx, .slice A2 ts.length cap2, .slice M2 ms2.length capm2] 48)).heap.size ((w.alloc (.cells #[.int .i64 code, .int .i64 line, .int .i64 col, .int .i64 cnt, .string tx, .slice A ts.length cap, .slice M ms.length capm] 44)).alloc (.cells #[.int .i64 code, .int .i64 line, .int .i64 col, .int .i64 cnt, .string tx, .slice A2 ts.length cap2, .slice M2 ms2.length capm2] 48)) wr)) (fun i _ => ms.length - (intOf i).toNat)
  case atStart => exact ⟨0, Nat.zero_le _, rfl, ⟨rfl⟩, ⟨by first | exact Below.refl _ _ | exact pw_below_drewN (Below.refl _ _) _⟩⟩
  case round =>
    obtain ⟨j, hj, rfl, HTK, HWR⟩ := hrel
    have hzx : wr.cell? ⟨w.heap.size, 6, none⟩ = some (.slice M ms.length capm) := (blk_cell ((HWR.out.block _ (blk_lt HBX.out)).trans HBX.out) 6).trans rfl
    have hzy : wr.cell? ⟨w.heap.size + 1, 6, none⟩ = some (.slice M2 ms2.length capm2) := (blk_cell ((HWR.out.block _ (blk_lt HBY.out)).trans HBY.out) 6).trans rfl
    by_cases hjn : j < ms.length
    · have hjn2 : j < ms2.length := by have := HL.out; omega
      obtain ⟨ad, hM, hcell⟩ := C_F (Kd.C_below (Kd.C_below HMX.out HW.out) HWR.out) j hjn
      obtain ⟨ad2, hM2, hcell2⟩ := C_F (Kd.C_below (Kd.C_below HMY.out HW.out) HWR.out) j hjn2
      have hd : decide ((j : Int) < (ms2.length : Int)) = true := by simp; omega
      have hp1 : (0 : Int) ≤ (j : Int) := by omega
      have hp2 : (j : Int) < (ms.length : Int) := by omega
      have hp3 : (j : Int) < (ms2.length : Int) := by omega
      have hmx1 := HMX.out.2.1
      have hmx2 := HMY.out.2.1
      have hx : ms[j] < 18446744073709551616 := HMS.out _ (List.getElem_mem hjn)
      have hy : ms2[j] < 18446744073709551616 := HMS2.out _ (List.getElem_mem hjn2)
      have hxj : xs[j]'(by have := HLX.out; omega) = putM ms[j] := by
        have h := HXS.out
        subst h
        simp
      have hyj : ys[j]'(by have := HLY.out; omega) = putM ms2[j] := by
        have h := HYS.out
        subst h
        simp
      obtain ⟨x, hxx⟩ : ∃ x, ms[j] = x := ⟨_, rfl⟩
      obtain ⟨y, hyy⟩ : ∃ y, ms2[j] = y := ⟨_, rfl⟩
      rw [hxx] at hx hcell hxj
      rw [hyy] at hy hcell2 hyj
      have HX := Aside0.mk hx
      have HY := Aside0.mk hy
      have HTX := Aside0.mk (show xs.take (j + 1) = xs.take j ++ [putM x] from by rw [List.take_succ_eq_append_getElem (by have := HLX.out; omega), hxj])
      have HTY := Aside0.mk (show ys.take (j + 1) = ys.take j ++ [putM y] from by rw [List.take_succ_eq_append_getElem (by have := HLY.out; omega), hyj])
      obtain ⟨SX, hSX⟩ : ∃ S, putM x = S := ⟨_, rfl⟩
      obtain ⟨SY, hSY⟩ : ∃ S, putM y = S := ⟨_, rfl⟩
      have HSX := Aside0.mk hSX
      have HSY := Aside0.mk hSY
      have HCX := Aside0.mk hcell
      have HCY := Aside0.mk hcell2
      have HZX := Aside0.mk hzx
      have HZY := Aside0.mk hzy
      subst hM; subst hM2
      clear hxx hyy hx hy hxj hyj hSX hSY
      have HWc := Aside0.mk (Below.refl wr.heap.size wr)
      by_cases hs : SX = SY
      · have ht1 : (SX.toList == SY.toList) = true := by rw [beq_iff_eq, toList_iff]; exact hs
        have ht2 : (SX.toList != SY.toList) = false := by rw [bne_eq_false_iff_eq, toList_iff]; exact hs
        have HEQ := Aside0.mk hs
        clear hs
        go_wp2_with fail
        go_region_held3 (fun w' => w'.cell? ⟨w.heap.size, 6, none⟩ = some (.slice (some ad) ms.length capm) ∧ w'.cell? ⟨w.heap.size + 1, 6, none⟩ = some (.slice (some ad2) ms2.length capm2) ∧ w'.cell? (ad.add j) = some (.float .f64 x) ∧ w'.cell? (ad2.add j) = some (.float .f64 y)) (first | (with_reducible exact four_cells HWc.out HZX.out HZY.out HCX.out HCY.out) | (with_reducible exact four_cells (below_drew HWc.out) HZX.out HZY.out HCX.out HCY.out) | go_keep) (first
          | (go_at_call 64; (with_reducible refine (mput2_calls x HX.out _).mono ?_); rintro e w9 ⟨rfl, hb5⟩; rw [HSX.out]; have HWn := Aside0.mk (below_then (by first | exact HWc.out | exact below_drew HWc.out | exact pw_below_drewN HWc.out _) (by first | exact HWc.out.size | exact (below_drew HWc.out).size | exact (pw_below_drewN HWc.out _).size) hb5); clear HWc hb5; have HWc := HWn; clear HWn)
          | (go_at_call 64; (with_reducible refine (mput2_calls y HY.out _).mono ?_); rintro e w9 ⟨rfl, hb5⟩; rw [HSY.out]; have HWn := Aside0.mk (below_then (by first | exact HWc.out | exact below_drew HWc.out | exact pw_below_drewN HWc.out _) (by first | exact HWc.out.size | exact (below_drew HWc.out).size | exact (pw_below_drewN HWc.out _).size) hb5); clear HWc hb5; have HWc := HWn; clear HWn))
        all_goals
          go_wp2_with fail
          go_roundw
          case rel => exact ⟨j + 1, by omega, by go_num, ⟨by rw [HTX.out, HTY.out, HTK.out, HSX.out, HSY.out, HEQ.out]⟩, ⟨below_then HWR.out HWR.out.size (by first | exact HWc.out | exact below_drew HWc.out | exact pw_below_drewN HWc.out _)⟩⟩
          case measure => simp [intOf]; omega
      · have ht1 : (SX.toList == SY.toList) = false := by rw [beq_eq_false_iff_ne, ne_eq, toList_iff]; exact hs
        have ht2 : (SX.toList != SY.toList) = true := by rw [bne_iff_ne, ne_eq, toList_iff]; exact hs
        have HNE := Aside0.mk hs
        clear hs
        go_wp2_with fail
        go_region_held3 (fun w' => w'.cell? ⟨w.heap.size, 6, none⟩ = some (.slice (some ad) ms.length capm) ∧ w'.cell? ⟨w.heap.size + 1, 6, none⟩ = some (.slice (some ad2) ms2.length capm2) ∧ w'.cell? (ad.add j) = some (.float .f64 x) ∧ w'.cell? (ad2.add j) = some (.float .f64 y)) (first | (with_reducible exact four_cells HWc.out HZX.out HZY.out HCX.out HCY.out) | (with_reducible exact four_cells (below_drew HWc.out) HZX.out HZY.out HCX.out HCY.out) | go_keep) (first
          | (go_at_call 64; (with_reducible refine (mput2_calls x HX.out _).mono ?_); rintro e w9 ⟨rfl, hb5⟩; rw [HSX.out]; have HWn := Aside0.mk (below_then (by first | exact HWc.out | exact below_drew HWc.out | exact pw_below_drewN HWc.out _) (by first | exact HWc.out.size | exact (below_drew HWc.out).size | exact (pw_below_drewN HWc.out _).size) hb5); clear HWc hb5; have HWc := HWn; clear HWn)
          | (go_at_call 64; (with_reducible refine (mput2_calls y HY.out _).mono ?_); rintro e w9 ⟨rfl, hb5⟩; rw [HSY.out]; have HWn := Aside0.mk (below_then (by first | exact HWc.out | exact below_drew HWc.out | exact pw_below_drewN HWc.out _) (by first | exact HWc.out.size | exact (below_drew HWc.out).size | exact (pw_below_drewN HWc.out _).size) hb5); clear HWc hb5; have HWc := HWn; clear HWn))
        all_goals
          go_wp2
          go_ret
          refine ⟨?_, below_then HW.out HW.out.size (below_then HWR.out HWR.out.size (by first | exact HWc.out | exact below_drew HWc.out | exact pw_below_drewN HWc.out _))⟩
          rw [HV.out]
          have hne : ¬ xs = ys := fun h => by
            have h1 := HTX.out
            rw [h, HTY.out, HSX.out, HSY.out] at h1
            exact HNE.out (List.cons.inj (List.append_inj_right' h1 rfl)).1.symm
          simp [hne]
    · obtain rfl : ms.length = j := by omega
      have hd : decide ((ms.length : Int) < (ms2.length : Int)) = false := by have := HL.out; simp; omega
      have hd2 : decide (ms.length < ms2.length) = false := by have := HL.out; simp; omega
      have hfull : xs = ys := by
        have h := HTK.out
        rw [List.take_of_length_le (by have := HLX.out; omega), List.take_of_length_le (by have := HLY.out; omega)] at h
        exact h
      have HF := Aside0.mk hfull
      clear hfull
      go_wp2
      go_ret
      exact ⟨by rw [HV.out, HF.out]; simp, below_then HW.out HW.out.size HWR.out⟩
end Go.Proofs.Ytnajmemcdipknaa.PK
namespace Go.Proofs.Ytnajmemcdipknaa.PK
open Go.RowKit Go.Proofs.YtnajmemcdipknaaW.PrintWords Go.Proofs.YtnajmemcdipknaaW.PrintLast Go.Proofs.YtnajmemcdipknaaW.PrintMore
set_option linter.unusedVariables false
set_option linter.unusedSimpArgs false
set_option maxRecDepth 100000
theorem textL_rng (s : ByteArray) : ∀ y ∈ textL s, 0 ≤ y ∧ y ≤ 255 := by
  intro y hy
  unfold textL at hy
  split at hy
  · simp at hy
  · rcases List.mem_append.1 hy with h | h
    · exact putL_range _ y h
    · exact bytesOf_range s y h
theorem textsL_rng (xs : List ByteArray) : ∀ y ∈ textsL xs, 0 ≤ y ∧ y ≤ 255 := by
  intro y hy
  unfold textsL at hy
  rcases List.mem_append.1 hy with h | h
  · exact putL_range _ y h
  · obtain ⟨z, _, hz⟩ := List.mem_flatMap.1 h
    exact textL_rng z y hz
theorem cmdL_rng (k : Int) (who nm ot tx : ByteArray) (wd : List ByteArray) (a b c d : Int) : ∀ y ∈ cmdL k who nm ot tx wd a b c d, 0 ≤ y ∧ y ≤ 255 := by
  intro y hy
  unfold cmdL at hy
  simp only [List.mem_append] at hy
  rcases hy with ((((((((h | h) | h) | h) | h) | h) | h) | h) | h) | h
  all_goals first | exact putL_range _ y h | exact textL_rng _ y h | exact textsL_rng _ y h
theorem fits_rng {n : Int} (h : fitsN n = true) : -9007199254740992 ≤ n ∧ n ≤ 9007199254740992 := by unfold fitsN at h; simpa using h
theorem get_put_cmd (k : Int) (who nm ot tx : ByteArray) (wd : List ByteArray) (a b c d : Int) (h : goodC k who nm ot tx wd a b c d = true) : getC (putC k who nm ot tx wd a b c d) = (⟨k, who, nm, ot, tx, wd, a, b, c, d⟩, 0) := by
  obtain ⟨⟨f1, f2⟩, f3, f4, f5, f6, f7, f8, fa, fb, fc, fd⟩ := good_facts h
  obtain ⟨s, hs⟩ : ∃ s, putC k who nm ot tx wd a b c d = s := ⟨_, rfl⟩
  have hb : bytesOf s = putL k ++ (textL who ++ (textL nm ++ (textL ot ++ (textL tx ++ (textsL wd ++ (putL a ++ (putL b ++ (putL c ++ (putL d ++ []))))))))) := by
    rw [← hs]
    unfold putC
    rw [if_pos h, strOf_bytes _ (cmdL_rng _ _ _ _ _ _ _ _ _ _)]
    simp only [cmdL, List.append_assoc, List.append_nil]
  obtain ⟨s0, h0, b0⟩ := rd_int k (by omega) s _ hb
  obtain ⟨s1, h1, b1⟩ := rd_text who (by omega) s0 _ b0
  obtain ⟨s2, h2, b2⟩ := rd_text nm (by omega) s1 _ b1
  obtain ⟨s3, h3, b3⟩ := rd_text ot (by omega) s2 _ b2
  obtain ⟨s4, h4, b4⟩ := rd_text tx (by omega) s3 _ b3
  obtain ⟨s5, h5, b5⟩ := rd_textsN 64 wd (fun x hx => by have := f8 x hx; omega) (by omega) (by omega) s4 _ b4
  obtain ⟨s6, h6, b6⟩ := rd_int a (fits_rng fa) s5 _ b5
  obtain ⟨s7, h7, b7⟩ := rd_int b (fits_rng fb) s6 _ b6
  obtain ⟨s8, h8, b8⟩ := rd_int c (fits_rng fc) s7 _ b7
  obtain ⟨s9, h9, b9⟩ := rd_int d (fits_rng fd) s8 _ b8
  have e0 : rk s = (k, s0, 0) := h0
  have e1 : r1 s = (who, s1, 0) := by unfold r1; rw [e0]; exact h1
  have e2 : r2 s = (nm, s2, 0) := by unfold r2; rw [e1]; exact h2
  have e3 : r3 s = (ot, s3, 0) := by unfold r3; rw [e2]; exact h3
  have e4 : r4 s = (tx, s4, 0) := by unfold r4; rw [e3]; exact h4
  have e5 : r5 s = (wd, s5, 0) := by unfold r5; rw [e4]; exact h5
  have e6 : r6 s = (a, s6, 0) := by unfold r6; rw [e5]; exact h6
  have e7 : r7 s = (b, s7, 0) := by unfold r7; rw [e6]; exact h7
  have e8 : r8 s = (c, s8, 0) := by unfold r8; rw [e7]; exact h8
  have e9 : r9 s = (d, s9, 0) := by unfold r9; rw [e8]; exact h9
  have er : readC s = ⟨k, who, nm, ot, tx, wd, a, b, c, d⟩ := by unfold readC; rw [e0, e1, e2, e3, e4, e5, e6, e7, e8, e9]
  have hz : s9.size = 0 := by rw [← bytesOf_len, b9]; rfl
  rw [hs]
  unfold getC goodV
  rw [er, e9, if_neg (by simp), if_neg (by simp [h]), if_pos hz]
end Go.Proofs.Ytnajmemcdipknaa.PK
namespace Go.Proofs.Ytnajmemcdipknaa.PK
open Go.RowKit Go.Proofs.YtnajmemcdipknaaW.PrintWords Go.Proofs.YtnajmemcdipknaaW.PrintLast Go.Proofs.YtnajmemcdipknaaW.PrintMore
set_option linter.unusedVariables false
set_option linter.unusedSimpArgs false
set_option maxRecDepth 100000
theorem split_rest {s : ByteArray} {k : Nat} : bytesOf s = (bytesOf s).take k ++ bytesOf (s.extract k s.size) := by
  rw [bytesOf_extract, ← bytesOf_len, List.take_length, List.take_append_drop]
theorem un_int {s s' : ByteArray} {e v : Int} (h : inInt s e = (v, s', 0)) : e = 0 ∧ bytesOf s = putL v ++ bytesOf s' ∧ fitsN v = true := by
  unfold inInt at h
  split at h
  · rename_i he
    split at h
    · rename_i h0
      have hg := getA_ok s h0
      injection h with h1 h2
      injection h2 with h2 h3
      subst h1
      refine ⟨he, ?_, by unfold fitsN; simp; omega⟩
      rw [hg.2.2.2.2.2, ← h2]
      exact split_rest
    · rename_i h0
      injection h with h1 h2
      injection h2 with h2 h3
      exact absurd h3 h0
  · rename_i he
    injection h with h1 h2
    injection h2 with h2 h3
    exact absurd h3 he
theorem un_size {s s' : ByteArray} {e v most : Int} (h : inSize s e most = (v, s', 0)) : e = 0 ∧ bytesOf s = putL v ++ bytesOf s' ∧ 0 ≤ v ∧ v ≤ most ∧ v ≤ 65536 := by
  have hok := inSize_ok s e most (by rw [h])
  rw [h] at hok
  unfold inSize at h
  obtain ⟨v1, s1, e1, hr⟩ : ∃ a b c, inInt s e = (a, b, c) := ⟨_, _, _, rfl⟩
  rw [hr] at h
  simp only at h
  split at h
  · rename_i h1
    subst h1
    injection h with h2 h3
    injection h3 with h3 h4
    rw [h4, if_pos rfl] at h2
    subst h2; subst h3
    obtain ⟨he, hb, _⟩ := un_int hr
    exact ⟨he, hb, hok.1, hok.2.2, hok.2.1⟩
  · rename_i h1
    injection h with h2 h3
    injection h3 with h3 h4
    exact absurd h4 h1
theorem un_text {s s' t : ByteArray} {e : Int} (h : inText s e = (t, s', 0)) : e = 0 ∧ bytesOf s = textL t ++ bytesOf s' ∧ t.size ≤ 65536 := by
  unfold inText at h
  obtain ⟨n, s1, e1, hr⟩ : ∃ a b c, inSize s e 65536 = (a, b, c) := ⟨_, _, _, rfl⟩
  rw [hr] at h
  simp only at h
  split at h
  · rename_i h1
    subst h1
    obtain ⟨he, hb, h0, _, h2⟩ := un_size hr
    split at h
    · rename_i hbig
      injection h with h3 h4
      injection h4 with h4 h5
      exact absurd h5 (by decide)
    · rename_i hbig
      injection h with h3 h4
      injection h4 with h4 h5
      have hle : n.toNat ≤ s1.size := by omega
      have hts : t.size = n.toNat := by rw [← h3]; exact ext0_size _ _ hle
      have htb : bytesOf t = (bytesOf s1).take n.toNat := by rw [← h3, bytesOf_extract]; rfl
      have hn : (t.size : Int) = n := by rw [hts]; omega
      refine ⟨he, ?_, by omega⟩
      rw [textL_small (by omega), hn, htb, ← h4, List.append_assoc, ← split_rest]
      exact hb
  · rename_i h1
    injection h with h3 h4
    injection h4 with h4 h5
    exact absurd h5 h1
theorem un_seq {α : Type} (f : ByteArray → α × ByteArray × Int) (enc : α → List Int) (good : α → Prop) (hf : ∀ s s' x, f s = (x, s', 0) → bytesOf s = enc x ++ bytesOf s' ∧ good x) (n : Nat) : ∀ s s' xs, seqL f n s = (xs, s', 0) → bytesOf s = xs.flatMap enc ++ bytesOf s' ∧ xs.length = n ∧ ∀ x ∈ xs, good x := by
  induction n with
  | zero =>
    intro s s' xs h
    simp only [seqL] at h
    injection h with h1 h2
    injection h2 with h2 h3
    subst h1; subst h2
    exact ⟨rfl, rfl, fun x hx => by simp at hx⟩
  | succ n ih =>
    intro s s' xs h
    simp only [seqL] at h
    obtain ⟨v, s1, e1, hr⟩ : ∃ a b c, f s = (a, b, c) := ⟨_, _, _, rfl⟩
    rw [hr] at h
    simp only at h
    split at h
    · rename_i h1
      subst h1
      obtain ⟨ys, s2, e2, hr2⟩ : ∃ a b c, seqL f n s1 = (a, b, c) := ⟨_, _, _, rfl⟩
      rw [hr2] at h
      simp only at h
      split at h
      · rename_i h2
        subst h2
        injection h with h3 h4
        injection h4 with h4 h5
        subst h3; subst h4
        obtain ⟨hb, hg⟩ := hf _ _ _ hr
        obtain ⟨hb2, hl, hg2⟩ := ih _ _ _ hr2
        refine ⟨by rw [hb, hb2, List.flatMap_cons, List.append_assoc], by simp [hl], fun x hx => ?_⟩
        rcases List.mem_cons.1 hx with rfl | hx
        · exact hg
        · exact hg2 x hx
      · rename_i h2
        injection h with h3 h4
        injection h4 with h4 h5
        exact absurd h5 h2
    · rename_i h1
      injection h with h3 h4
      injection h4 with h4 h5
      exact absurd h5 h1
theorem un_texts {s s' : ByteArray} {e most : Int} {xs : List ByteArray} (h : inTexts s e most = (xs, s', 0)) : e = 0 ∧ bytesOf s = textsL xs ++ bytesOf s' ∧ (xs.length : Int) ≤ most ∧ xs.length ≤ 65536 ∧ ∀ x ∈ xs, x.size ≤ 65536 := by
  unfold inTexts inSeq at h
  obtain ⟨n, s1, e1, hr⟩ : ∃ a b c, inSize s e most = (a, b, c) := ⟨_, _, _, rfl⟩
  rw [hr] at h
  simp only at h
  split at h
  · rename_i h1
    subst h1
    obtain ⟨he, hb, h0, hm, h2⟩ := un_size hr
    obtain ⟨hb2, hl, hg⟩ := un_seq (fun s => inText s 0) textL (fun x => x.size ≤ 65536) (fun s s' x hx => ⟨(un_text hx).2.1, (un_text hx).2.2⟩) _ _ _ _ h
    have hn : (xs.length : Int) = n := by rw [hl]; omega
    refine ⟨he, ?_, by omega, by omega, hg⟩
    unfold textsL
    rw [hn, hb, hb2, List.append_assoc]
  · rename_i h1
    injection h with h3 h4
    injection h4 with h4 h5
    exact absurd h5 h1
end Go.Proofs.Ytnajmemcdipknaa.PK
namespace Go.Proofs.Ytnajmemcdipknaa.PK
open Go.RowKit Go.Proofs.YtnajmemcdipknaaW.PrintWords Go.Proofs.YtnajmemcdipknaaW.PrintLast Go.Proofs.YtnajmemcdipknaaW.PrintMore
open Go.ChangeShapes Go.WideShapes
set_option linter.unusedVariables false
set_option linter.unusedSimpArgs false
set_option maxRecDepth 100000
theorem undo_good : goodC 11 ⟨#[97]⟩ ⟨#[]⟩ ⟨#[]⟩ ⟨#[]⟩ [] 0 0 0 0 = true := by decide +kernel
theorem undo_put : putC 11 ⟨#[97]⟩ ⟨#[]⟩ ⟨#[]⟩ ⟨#[]⟩ [] 0 0 0 0 = ⟨#[1, 11, 1, 1, 97, 0, 0, 0, 0, 0, 0, 0, 0]⟩ := by decide +kernel
theorem undo_get : getC ⟨#[1, 11, 1, 1, 97, 0, 0, 0, 0, 0, 0, 0, 0]⟩ = (⟨11, ⟨#[97]⟩, ⟨#[]⟩, ⟨#[]⟩, ⟨#[]⟩, [], 0, 0, 0, 0⟩, 0) := by
  rw [← undo_put]
  exact get_put_cmd _ _ _ _ _ _ _ _ _ _ undo_good
set_option maxHeartbeats 1600000 in
theorem speaks21_calls (w : World) : Calls Try.prog 12 #[] w fun e w' => e = .returned (.bool true) ∧ Below w.heap.size w w' := by
  have hu := Try.underlying28
  go_enter Try.func12, Try.ntmps12
  go_wp2_with fail
  refine (cPut_calls 11 ⟨#[97]⟩ ⟨#[]⟩ ⟨#[]⟩ ⟨#[]⟩ none 0 [] 0 0 0 0 w (by decide) (by decide) (by decide) ⟨rfl, by decide, fun h => absurd h (by decide)⟩ (by decide)).mono ?_
  rintro e w1 ⟨rfl, hb1⟩
  rw [undo_put]
  have HB1 := Aside0.mk hb1
  clear hb1
  go_wp2_with fail
  refine (cGet_calls ⟨#[1, 11, 1, 1, 97, 0, 0, 0, 0, 0, 0, 0, 0]⟩ w1).mono ?_
  rintro e w2 ⟨A, cap, rfl, _, _, hb2⟩
  rw [undo_get]
  have HB2 := Aside0.mk (below_then HB1.out HB1.out.size hb2)
  clear hb2
  unfold cellsV
  go_wp2
  go_ret
  exact ⟨rfl, by repeat (first | (with_reducible first | exact HB2.out | apply below_alloc | apply pw_below_drewN | apply below_drew1) | exact HB2.out)⟩
end Go.Proofs.Ytnajmemcdipknaa.PK
