/- OctetsReads, the walk: whatever the bytes and the asks, the Go code answers yes. Condition: none but the asks' being readable. -/
import Derived.Test.YtcflcmoblngfbaaKt
import Derived.Test.YtcflcmoblngfbaaKw
import Derived.Test.YtcflcmoblngfbaaKs1
import Derived.Deep.RegionHeld3
namespace Go.Proofs.Ytcflcmoblngfbaa.PK
open Go.RowKit Go.Proofs.YtcflcmoblngfbaaW.PrintWords Go.Proofs.YtcflcmoblngfbaaW.PrintLast Go.Proofs.YtcflcmoblngfbaaW.PrintMore
set_option linter.unusedVariables false
set_option linter.unusedSimpArgs false

theorem block_of_add (a : Addr) (n : Nat) : (a.add n).block = a.block := by unfold Addr.add; split <;> rfl
theorem add_of_add (a : Addr) (i j : Nat) : (a.add i).add j = a.add (i + j) := by
  unfold Addr.add
  by_cases hi : i = 0 <;> by_cases hj : j = 0 <;> simp [hi, hj, Nat.add_assoc]
theorem mod5 (p : Int) : 0 ≤ Int.tmod (Int.tmod p 5 + 5) 5 ∧ Int.tmod (Int.tmod p 5 + 5) 5 ≤ 4 := by
  have h1 := Int.lt_tmod_of_pos p (show (0 : Int) < 5 by omega)
  have h2 := Int.tmod_lt_of_pos p (show (0 : Int) < 5 by omega)
  have e : Int.tmod (Int.tmod p 5 + 5) 5 = (Int.tmod p 5 + 5) % 5 := Int.tmod_eq_emod_of_nonneg (by omega)
  omega
theorem C_str {w : World} {A : Option Addr} {n : Nat} {xs : List ByteArray} (h : Kd.C Kd.string w A n xs) (t : Nat) (ht : t < xs.length) : ∃ ad, A = some ad ∧ w.cell? (ad.add t) = some (.string xs[t]) := by
  obtain ⟨hl, _, hc⟩ := h
  obtain ⟨ad, rfl, hcell⟩ := hc (by omega)
  obtain ⟨cs, _, hcs, hcc⟩ := hcell t xs[t] (List.getElem?_eq_getElem ht)
  have hcs : cs = [.string xs[t]] := hcs
  subst hcs
  refine ⟨ad, rfl, ?_⟩
  have := hcc 0 (.string xs[t]) rfl
  have e : t * Kd.string.sz + 0 = t := by show t * 1 + 0 = t; omega
  rwa [e] at this
/-- An ask: two numbers. -/
def kAsk : Kd (Int × Int) where
  sz := 2
  E := []
  K := fun _ x cs => cs = [.int .i64 x.1, .int .i64 x.2]
  M := fun _ _ _ x cs => cs = [.int .i64 x.1, .int .i64 x.2]
  K_len := fun h => by rw [h]; rfl
  K_one := fun h u hu => by
    rw [h] at hu
    simp only [List.mem_cons, List.not_mem_nil, or_false] at hu
    rcases hu with rfl | rfl <;> rfl
  K_below := fun _ h => h
  K_of_M := fun h => h
  M_mono := fun _ h => h
  M_bound := fun h => h
  M_move := fun _ h => h
  M_lower := fun _ h => h

theorem err_quiet (g : Nat) (f0 : ByteArray) (f1 : Int) (W : World) (h : W.heap[g]? = some (.cells #[.string f0, .int .i64 f1] 75 (0, 0))) :
    Calls Try.prog 18 #[.pointer (some ⟨g, 0, none⟩)] W fun e w' => e = .returned (.int .i64 f1) ∧ w' = W := by
  have h1 : W.cell? ⟨g, 1, none⟩ = some (.int .i64 f1) := (blk_cell h 1).trans rfl
  clear h
  go_enter Try.func18, Try.ntmps18
  go_wp2
  go_ret
  exact ⟨rfl, rfl⟩
theorem end_quiet (g : Nat) (f0 : ByteArray) (f1 : Int) (W : World) (h : W.heap[g]? = some (.cells #[.string f0, .int .i64 f1] 75 (0, 0))) :
    Calls Try.prog 29 #[.pointer (some ⟨g, 0, none⟩)] W fun e w' => e = .returned (.int .i64 (inEnd f0 f1)) ∧ w' = W := by
  have h0 : W.cell? ⟨g, 0, none⟩ = some (.string f0) := (blk_cell h 0).trans rfl
  have HH := Aside0.mk h
  clear h
  by_cases he : f1 = 0
  · subst he
    by_cases hs : f0.size = 0
    · have hl : (f0.toList == ([] : List UInt8)) = true := by rw [beq_iff_eq]; exact (toList_nil_iff f0).mpr hs
      have hl2 : f0.toList.isEmpty = true := by rw [(toList_nil_iff f0).mpr hs]; rfl
      have e : inEnd f0 0 = 0 := by unfold inEnd; rw [if_pos rfl, if_pos hs]
      rw [e]
      clear e
      go_enter Try.func29, Try.ntmps29
      go_wp2_with (go_at_call 18; refine (err_quiet g f0 0 _ HH.out).mono ?_; rintro e w' ⟨rfl, rfl⟩)
      go_ret
      exact ⟨rfl, rfl⟩
    · have hl : (f0.toList == ([] : List UInt8)) = false := by rw [beq_eq_false_iff_ne]; exact fun h => hs ((toList_nil_iff f0).mp h)
      have hl2 : f0.toList.isEmpty = false := by
        cases hc : f0.toList with
        | nil => exact absurd ((toList_nil_iff f0).mp hc) hs
        | cons a b => rfl
      have e : inEnd f0 0 = 4 := by unfold inEnd; rw [if_pos rfl, if_neg hs]
      rw [e]
      clear e
      go_enter Try.func29, Try.ntmps29
      go_wp2_with (go_at_call 18; refine (err_quiet g f0 0 _ HH.out).mono ?_; rintro e w' ⟨rfl, rfl⟩)
      go_ret
      exact ⟨rfl, rfl⟩
  · have he2 : (f1 != 0) = true := by rw [bne_iff_ne]; exact he
    have e : inEnd f0 f1 = f1 := by unfold inEnd; rw [if_neg he]
    rw [e]
    clear e
    go_enter Try.func29, Try.ntmps29
    go_wp2_with (go_at_call 18; refine (err_quiet g f0 f1 _ HH.out).mono ?_; rintro e w' ⟨rfl, rfl⟩)
    go_ret
    exact ⟨rfl, rfl⟩
theorem refEnd_quiet (g : Nat) (f0 : ByteArray) (f1 : Int) (W : World) (h : W.heap[g]? = some (.cells #[.string f0, .int .i64 f1] 46 (0, 0))) :
    Calls Try.prog 30 #[.pointer (some ⟨g, 0, none⟩)] W fun e w' => e = .returned (.int .i64 (inEnd f0 f1)) ∧ w' = W := by
  have h0 : W.cell? ⟨g, 0, none⟩ = some (.string f0) := (blk_cell h 0).trans rfl
  have h1 : W.cell? ⟨g, 1, none⟩ = some (.int .i64 f1) := (blk_cell h 1).trans rfl
  clear h
  by_cases he : f1 = 0
  · subst he
    by_cases hs : f0.size = 0
    · have hl : (f0.toList == ([] : List UInt8)) = true := by rw [beq_iff_eq]; exact (toList_nil_iff f0).mpr hs
      have hl2 : f0.toList.isEmpty = true := by rw [(toList_nil_iff f0).mpr hs]; rfl
      have e : inEnd f0 0 = 0 := by unfold inEnd; rw [if_pos rfl, if_pos hs]
      rw [e]
      clear e
      go_enter Try.func30, Try.ntmps30
      go_wp2
      repeat (go_quiet (fail); try go_wp2)
      go_ret
      exact ⟨rfl, rfl⟩
    · have hl : (f0.toList == ([] : List UInt8)) = false := by rw [beq_eq_false_iff_ne]; exact fun h => hs ((toList_nil_iff f0).mp h)
      have hl2 : f0.toList.isEmpty = false := by
        cases hc : f0.toList with
        | nil => exact absurd ((toList_nil_iff f0).mp hc) hs
        | cons a b => rfl
      have e : inEnd f0 0 = 4 := by unfold inEnd; rw [if_pos rfl, if_neg hs]
      rw [e]
      clear e
      go_enter Try.func30, Try.ntmps30
      go_wp2
      repeat (go_quiet (fail); try go_wp2)
      go_ret
      exact ⟨rfl, rfl⟩
  · have he2 : (f1 == 0) = false := by rw [beq_eq_false_iff_ne]; exact he
    have e : inEnd f0 f1 = f1 := by unfold inEnd; rw [if_neg he]
    rw [e]
    clear e
    go_enter Try.func30, Try.ntmps30
    go_wp2
    repeat (go_quiet (fail); try go_wp2)
    go_ret
    exact ⟨rfl, rfl⟩

/-- Both readers, at once. -/
structure Two (w0 : World) (g g2 : Nat) (W : World) (s1 : ByteArray) (e1 : Int) (s2 : ByteArray) (e2 : Int) : Prop where
  i : IsS75 w0 W g s1 e1
  r : IsS46 w0 W g2 s2 e2
  b : Below w0.heap.size w0 W
theorem Two.ne {w0 : World} {g g2 : Nat} {W : World} {s1 : ByteArray} {e1 : Int} {s2 : ByteArray} {e2 : Int} (h : Two w0 g g2 W s1 e1 s2 e2) : g ≠ g2 := IsS75.ne_blk h.i h.r.1 (by decide)
theorem Two.in_ {w0 : World} {g g2 : Nat} {W W' : World} {s1 : ByteArray} {e1 : Int} {s2 : ByteArray} {e2 : Int} {a : ByteArray} {c : Int} (h : Two w0 g g2 W s1 e1 s2 e2) (hi : IsS75 w0 W' g a c) (hb : Below w0.heap.size w0 W') (hk : KeepBut W W' g none) : Two w0 g g2 W' a c s2 e2 :=
  ⟨hi, ⟨(hk.2 g2 h.r.lt (fun e => h.ne e.symm) (by simp)).trans h.r.1, h.r.2⟩, hb⟩
theorem Two.ref_ {w0 : World} {g g2 : Nat} {W W' : World} {s1 : ByteArray} {e1 : Int} {s2 : ByteArray} {e2 : Int} {a : ByteArray} {c : Int} (h : Two w0 g g2 W s1 e1 s2 e2) (hi : IsS46 w0 W' g2 a c) (hb : Below w0.heap.size w0 W') (hk : KeepBut W W' g2 none) : Two w0 g g2 W' s1 e1 a c :=
  ⟨⟨(hk.2 g h.i.lt h.ne (by simp)).trans h.i.1, h.i.2⟩, hi, hb⟩
theorem Two.drewN {w0 : World} {g g2 : Nat} {W : World} {s1 : ByteArray} {e1 : Int} {s2 : ByteArray} {e2 : Int} (h : Two w0 g g2 W s1 e1 s2 e2) (n : Nat) : Two w0 g g2 (W.drewN n) s1 e1 s2 e2 := ⟨h.i, h.r, pw_below_drewN h.b n⟩
theorem Two.drawn {w0 : World} {g g2 : Nat} {W W' : World} {s1 : ByteArray} {e1 : Int} {s2 : ByteArray} {e2 : Int} (h : Two w0 g g2 W s1 e1 s2 e2) (hd : Drawn0 W W') : Two w0 g g2 W' s1 e1 s2 e2 := by
  obtain ⟨⟨n, rfl⟩⟩ := hd
  exact h.drewN n
/-- What the loop of OctetsReads carries: both readers stand alike. -/
def ReadsRel (w0 : World) (g g2 : Nat) (wr : World) (s : ByteArray) (e : Int) : Prop := Two w0 g g2 wr s e s e ∧ s.size ≤ 2000
set_option maxRecDepth 100000 in
set_option maxHeartbeats 3200000 in
theorem reads_calls (s : ByteArray) (A : Option Addr) (c : Nat) (xs : List (Int × Int)) (w : World) (hs : s.size ≤ 140737488351232) (hr : kAsk.C w A xs.length xs) (hc : xs.length ≤ c) :
    Calls Try.prog 6 #[.string s, .slice A xs.length c] w fun e w' => e = .returned (.bool true) ∧ Below w.heap.size w w' := by
  have HR := Aside0.mk hr
  have hxl : xs.length ≤ 9223372036854775807 := hr.2.1
  clear hr
  by_cases hbig : 2000 < s.size
  · have hb' : decide ((2000 : Int) < (s.size : Int)) = true := by simp; omega
    have hb2 : decide (2000 < s.size) = true := by simp; omega
    go_enter Try.func6, Try.ntmps6
    go_wp2_with (go_at_call 9; refine (primerlaw01_speaks.calls true _ rfl).mono ?_; rintro e w1 ⟨rfl, hb1⟩; have HB1 := Aside0.mk hb1; clear hb1)
    go_ret
    exact ⟨rfl, HB1.out⟩
  · have hb' : decide ((2000 : Int) < (s.size : Int)) = false := by simp; omega
    have hb2 : decide (2000 < s.size) = false := by simp; omega
    go_enter Try.func6, Try.ntmps6
    go_wp2_with fail
    refine (primerlaw01_speaks.calls true _ rfl).mono ?_
    rintro e w1 ⟨rfl, hb1⟩
    have HB1 := Aside0.mk hb1
    clear hb1
    go_wp2_with fail
    refine (octets_Open.calls s s 0 w w1 HB1.out rfl).mono ?_
    rintro e w2 ⟨g, rfl, hi2, hb2', _⟩
    have HI2 := Aside0.mk hi2
    have HB2 := Aside0.mk hb2'
    clear hi2 hb2'
    go_wp2_with fail
    have hnew : IsS46 w (w2.alloc (.cells #[.string s, .int .i64 0] 46)) w2.heap.size s 0 := IsS46.new w w2 s 0 HB2.out
    have HN := Aside0.mk hnew
    clear hnew
    have HI3 := Aside0.mk (HI2.out.alloc (.cells #[.string s, .int .i64 0] 46))
    have HB3 := Aside0.mk (below_alloc HB2.out (.cells #[.string s, .int .i64 0] 46))
    clear HI2
    obtain ⟨g2, hg2⟩ : ∃ g2, g2 = w2.heap.size := ⟨_, rfl⟩
    rw [← hg2] at HN ⊢
    have HG2 := Aside0.mk hg2
    clear hg2
    go_loopw [7] (fun i wr => ∃ j : Nat, j ≤ xs.length ∧ j ≤ 20 ∧ i = .int .i64 j ∧ ∃ s' e', Aside0 (ReadsRel w g g2 wr s' e')) (fun i _ => 20 - (intOf i).toNat)
    case atStart => exact ⟨0, Nat.zero_le _, by omega, rfl, s, 0, ⟨⟨⟨HI3.out, HN.out, HB3.out⟩, by omega⟩⟩⟩
    case round =>
      obtain ⟨j, hj1, hj2, rfl, s', e', hrel⟩ := hrel
      clear HB1 HB2 HI3 HN HB3 HG2
      by_cases hj : j < xs.length
      · by_cases hj3 : j < 20
        · obtain ⟨ad, rfl, hcell⟩ := HR.out.2.2 (by omega)
          obtain ⟨cs, _, hcs, hcc⟩ := hcell j xs[j] (List.getElem?_eq_getElem hj)
          have hcs : cs = [.int .i64 xs[j].1, .int .i64 xs[j].2] := hcs
          subst hcs
          obtain ⟨p, hp⟩ : ∃ p, p = xs[j].1 := ⟨_, rfl⟩
          obtain ⟨q, hq⟩ : ∃ q, q = xs[j].2 := ⟨_, rfl⟩
          have c0 : wr.cell? (ad.add (j * 2)) = some (.int .i64 p) := pw_cell_below hrel.out.1.b (hcc 0 (.int .i64 p) (by rw [hp]; rfl))
          have c1 : wr.cell? ⟨(ad.add (j * 2)).block, (ad.add (j * 2)).off + 1, none⟩ = some (.int .i64 q) := by
            have h : w.cell? (ad.add (j * 2 + 1)) = some (.int .i64 q) := hcc 1 (.int .i64 q) (by rw [hq]; rfl)
            rw [← add_of_add] at h
            exact pw_cell_below hrel.out.1.b h
          have hc1w : w.cell? ⟨(ad.add (j * 2)).block, (ad.add (j * 2)).off + 1, none⟩ = some (.int .i64 q) := by
            have h : w.cell? (ad.add (j * 2 + 1)) = some (.int .i64 q) := hcc 1 (.int .i64 q) (by rw [hq]; rfl)
            rw [← add_of_add] at h
            exact h
          have hlt := World.block_lt_of_cell? w _ (hcc 0 (.int .i64 p) (by rw [hp]; rfl))
          rw [block_of_add] at hlt
          have hp5 := mod5 p
          have hp4 : -4 ≤ Int.tmod p 5 ∧ Int.tmod p 5 ≤ 4 := ⟨by have := Int.lt_tmod_of_pos p (show (0 : Int) < 5 by omega); omega, by have := Int.tmod_lt_of_pos p (show (0 : Int) < 5 by omega); omega⟩
          obtain ⟨p5, hp5e⟩ : ∃ p5, p5 = Int.tmod p 5 := ⟨_, rfl⟩
          have hR1 : Int.tmod p 5 = p5 := hp5e.symm
          rw [← hp5e] at hp5 hp4
          obtain ⟨K, hKe⟩ : ∃ K, K = Int.tmod (p5 + 5) 5 := ⟨_, rfl⟩
          have hR2 : Int.tmod (p5 + 5) 5 = K := hKe.symm
          have hR3 : (p5 + 5) % 5 = K := by rw [← hR2]; exact (Int.tmod_eq_emod_of_nonneg (by omega)).symm
          rw [← hKe] at hp5
          obtain ⟨hK0, hK4⟩ := hp5
          obtain ⟨hp40, hp44⟩ := hp4
          clear hcc hcell hp hq hp5e hKe
          have hd0 : (j : Int) < (xs.length : Int) := by omega
          rcases (show K = 0 ∨ K = 1 ∨ K = 2 ∨ K = 3 ∨ K = 4 from by omega) with rfl | rfl | rfl | rfl | rfl
          · obtain ⟨r1, r2, r3, hr⟩ : ∃ r1 r2 r3, inInt s' e' = (r1, r2, r3) := ⟨_, _, _, rfl⟩
            have hsz : r2.size ≤ 2000 := by
              have h1 := inInt_size s' e'
              have h2 := hrel.out.2
              rw [hr] at h1
              simp only at h1
              omega
            have HR0 := Aside0.mk hr
            have hrel0 : Aside0 (s'.size ≤ 2000) := ⟨hrel.out.2⟩
            clear hr
            go_wp2_with fail
            refine (octets_In_Int.calls g s' e' r1 r2 r3 w wr hrel.out.1.i hrel.out.1.b (by rw [In_Int_eq, HR0.out])).mono ?_
            rintro e w3 ⟨rfl, hi, hb, hk⟩
            have HT := Aside0.mk (hrel.out.1.in_ hi hb hk)
            clear hi hb hk
            go_wp2_with fail
            refine (primerref01_Int.calls 25 g2 s' e' r1 r2 r3 w w3 HT.out.r HT.out.b (by rw [ref_Int_eq s' e' (by have := hrel0.out; omega) 25 (by omega), HR0.out])).mono ?_
            rintro e w4 ⟨rfl, hi, hb, hk⟩
            have HT4 := Aside0.mk (HT.out.ref_ hi hb hk)
            clear hi hb hk HT hrel
            have hcE : w4.cell? ⟨g2, 1, none⟩ = some (.int .i64 r3) := cellS46_1 HT4.out.r.1
            go_wp2_with fail
            go_quiet (first
              | (go_at_call 18; exact Calls.quiet_of_same (err_quiet g r2 r3 _ HT4.out.i.1))
              | (go_at_call 29; exact Calls.quiet_of_same (end_quiet g r2 r3 _ HT4.out.i.1))
              | (go_at_call 30; exact Calls.quiet_of_same (refEnd_quiet g2 r2 r3 _ HT4.out.r.1)))
            go_wp2
            go_roundw
            case rel => exact ⟨j + 1, by omega, by omega, by go_num, r2, r3, ⟨⟨HT4.out.drewN _, hsz⟩⟩⟩
            case measure => simp [intOf]; omega
          · obtain ⟨r1, r2, r3, hr⟩ : ∃ r1 r2 r3, inBool s' e' = (r1, r2, r3) := ⟨_, _, _, rfl⟩
            have hsz : r2.size ≤ 2000 := by
              have h1 := inBool_size s' e'
              have h2 := hrel.out.2
              rw [hr] at h1
              simp only at h1
              omega
            have HR0 := Aside0.mk hr
            have hrel0 : Aside0 (s'.size ≤ 2000) := ⟨hrel.out.2⟩
            clear hr
            go_wp2_with fail
            refine (octets_In_Bool.calls g s' e' r1 r2 r3 w wr hrel.out.1.i hrel.out.1.b (by rw [In_Bool_eq, HR0.out])).mono ?_
            rintro e w3 ⟨rfl, hi, hb, hk⟩
            have HT := Aside0.mk (hrel.out.1.in_ hi hb hk)
            clear hi hb hk
            go_wp2_with fail
            refine (primerref01_Bool.calls g2 s' e' r1 r2 r3 w w3 HT.out.r HT.out.b (by rw [ref_Bool_eq, HR0.out])).mono ?_
            rintro e w4 ⟨rfl, hi, hb, hk⟩
            have HT4 := Aside0.mk (HT.out.ref_ hi hb hk)
            clear hi hb hk HT hrel
            have hcE : w4.cell? ⟨g2, 1, none⟩ = some (.int .i64 r3) := cellS46_1 HT4.out.r.1
            go_wp2_with fail
            go_quiet (first
              | (go_at_call 18; exact Calls.quiet_of_same (err_quiet g r2 r3 _ HT4.out.i.1))
              | (go_at_call 29; exact Calls.quiet_of_same (end_quiet g r2 r3 _ HT4.out.i.1))
              | (go_at_call 30; exact Calls.quiet_of_same (refEnd_quiet g2 r2 r3 _ HT4.out.r.1)))
            go_wp2
            go_roundw
            case rel => exact ⟨j + 1, by omega, by omega, by go_num, r2, r3, ⟨⟨HT4.out.drewN _, hsz⟩⟩⟩
            case measure => simp [intOf]; omega
          · obtain ⟨r1, r2, r3, hr⟩ : ∃ r1 r2 r3, inText s' e' = (r1, r2, r3) := ⟨_, _, _, rfl⟩
            have hsz : r2.size ≤ 2000 := by
              have h1 := (inText_size s' e').1
              have h2 := hrel.out.2
              rw [hr] at h1
              simp only at h1
              omega
            have HR0 := Aside0.mk hr
            have hrel0 : Aside0 (s'.size ≤ 2000) := ⟨hrel.out.2⟩
            clear hr
            go_wp2_with fail
            refine (octets_In_Text.calls 1 g s' e' r1 r2 r3 w wr hrel.out.1.i hrel.out.1.b (by rw [In_Text_eq s' e' 1 (by omega), HR0.out])).mono ?_
            rintro e w3 ⟨rfl, hi, hb, hk⟩
            have HT := Aside0.mk (hrel.out.1.in_ hi hb hk)
            clear hi hb hk
            go_wp2_with fail
            refine (primerref01_Text.calls 31 g2 s' e' r1 r2 r3 w w3 HT.out.r HT.out.b (by rw [ref_Text_eq s' e' (by have := hrel0.out; omega) 31 (by omega), HR0.out])).mono ?_
            rintro e w4 ⟨rfl, hi, hb, hk⟩
            have HT4 := Aside0.mk (HT.out.ref_ hi hb hk)
            clear hi hb hk HT hrel
            have hcE : w4.cell? ⟨g2, 1, none⟩ = some (.int .i64 r3) := cellS46_1 HT4.out.r.1
            go_wp2_with fail
            go_quiet (first
              | (go_at_call 18; exact Calls.quiet_of_same (err_quiet g r2 r3 _ HT4.out.i.1))
              | (go_at_call 29; exact Calls.quiet_of_same (end_quiet g r2 r3 _ HT4.out.i.1))
              | (go_at_call 30; exact Calls.quiet_of_same (refEnd_quiet g2 r2 r3 _ HT4.out.r.1)))
            go_wp2
            go_roundw
            case rel => exact ⟨j + 1, by omega, by omega, by go_num, r2, r3, ⟨⟨HT4.out.drewN _, hsz⟩⟩⟩
            case measure => simp [intOf]; omega
          · obtain ⟨r1, r2, r3, hr⟩ : ∃ r1 r2 r3, inInts s' e' q = (r1, r2, r3) := ⟨_, _, _, rfl⟩
            have hsz : r2.size ≤ 2000 := by
              have h1 := inInts_size s' e' q
              have h2 := hrel.out.2
              rw [hr] at h1
              simp only at h1
              omega
            have HR0 := Aside0.mk hr
            have hrel0 : Aside0 (s'.size ≤ 2000) := ⟨hrel.out.2⟩
            have HC1 := Aside0.mk hc1w
            clear hr hc1w
            go_wp2_with fail
            go_region_held3 (fun w' => w'.cell? ⟨(ad.add (j * 2)).block, (ad.add (j * 2)).off + 1, none⟩ = some (.int .i64 q))
              (first | exact c1 | exact pw_cell_below HB3.out HC1.out | exact pw_cell_below HB4.out HC1.out | exact pw_cell_below HT5.out.b HC1.out)
              (first
                | (go_at_call 25; refine (octets_In_Ints.calls 65538 g s' e' q r1 r2 r3 w _ (by exact hrel.out.1.i) (by first | exact hrel.out.1.b | exact below_drew hrel.out.1.b | exact pw_below_drewN hrel.out.1.b _) (by rw [In_Ints_eq s' e' q 65538 (by omega), HR0.out])).mono ?_; rintro e w3 ⟨v0, rfl, hR3, hi, hb, hk⟩; obtain ⟨Aa, ca, ha, hla, _⟩ := Kd.R_reads hR3; subst ha; have HR3 := Aside0.mk hR3; have HB3 := Aside0.mk hb; have HT3 := Aside0.mk (hrel.out.1.in_ hi hb ⟨hk.1, hk.2⟩); clear hR3 hi hb hk)
                | (go_at_call 26; refine (primerref01_Ints.calls 65570 g2 s' e' q r1 r2 r3 w w3 HT3.out.r HT3.out.b (by rw [ref_Ints_eq s' e' q (by have := hrel0.out; omega) 65570 (by omega), HR0.out])).mono ?_; rintro e w4 ⟨v1, rfl, hR4, hi, hb, hk⟩; obtain ⟨Ab, cb, hab, hlb, hCb⟩ := Kd.R_reads hR4; subst hab; have HR4 := Aside0.mk hR4; have HB4 := Aside0.mk hb; have HT4 := Aside0.mk (HT3.out.ref_ hi hb hk); have HRa := Aside0.mk (Kd.R_keep (Kd.R_types HR3.out HT3.out.r.1 (by decide)) hk (fun _ h => h.2)); obtain ⟨A', c', e', hla', hCa⟩ := Kd.R_reads HRa.out; injection e' with e1 _ e3; subst e1; subst e3; have HCa := Aside0.mk hCa; have HCb := Aside0.mk hCb; clear hR4 hi hb hk hCa hCb)
                | (go_at_call 24; refine (primerlaw01_back2.calls 65537 Aa ca r1 Ab cb r1 true _ (by exact HCa.out) hla (by exact HCb.out) hlb (back2_same r1 (by have h := inSeq_len (fun s => inInt s 0) s' e' q; have h2 : (inInts s' e' q).1 = r1 := (by rw [HR0.out]); rw [← h2]; exact h))).mono ?_; rintro e w5 ⟨rfl, hd⟩; have HT5 := Aside0.mk (HT4.out.drawn hd); clear hd))
            have hcE : w5.cell? ⟨g2, 1, none⟩ = some (.int .i64 r3) := cellS46_1 HT5.out.r.1
            go_wp2_with fail
            go_quiet (first
              | (go_at_call 18; exact Calls.quiet_of_same (err_quiet g r2 r3 _ HT5.out.i.1))
              | (go_at_call 29; exact Calls.quiet_of_same (end_quiet g r2 r3 _ HT5.out.i.1))
              | (go_at_call 30; exact Calls.quiet_of_same (refEnd_quiet g2 r2 r3 _ HT5.out.r.1)))
            go_wp2
            go_roundw
            case rel => exact ⟨j + 1, by omega, by omega, by go_num, r2, r3, ⟨⟨HT5.out.drewN _, hsz⟩⟩⟩
            case measure => simp [intOf]; omega
          · obtain ⟨r1, r2, r3, hr⟩ : ∃ r1 r2 r3, inTexts s' e' q = (r1, r2, r3) := ⟨_, _, _, rfl⟩
            have hsz : r2.size ≤ 2000 := by
              have h1 := inTexts_size s' e' q
              have h2 := hrel.out.2
              rw [hr] at h1
              simp only at h1
              omega
            have HR0 := Aside0.mk hr
            have hrel0 : Aside0 (s'.size ≤ 2000) := ⟨hrel.out.2⟩
            have HC1 := Aside0.mk hc1w
            clear hr hc1w
            go_wp2_with fail
            go_region_held3 (fun w' => w'.cell? ⟨(ad.add (j * 2)).block, (ad.add (j * 2)).off + 1, none⟩ = some (.int .i64 q))
              (first | exact c1 | exact pw_cell_below HB3.out HC1.out | exact pw_cell_below HB4.out HC1.out)
              (first
                | (go_at_call 27; refine (octets_In_Texts.calls 65539 g s' e' q r1 r2 r3 w _ (by exact hrel.out.1.i) (by first | exact hrel.out.1.b | exact below_drew hrel.out.1.b | exact pw_below_drewN hrel.out.1.b _) (by rw [In_Texts_eq s' e' q 65539 (by omega), HR0.out])).mono ?_; rintro e w3 ⟨v0, rfl, hR3, hi, hb, hk⟩; obtain ⟨Aa, ca, ha, hla, _⟩ := Kd.R_reads hR3; subst ha; have HR3 := Aside0.mk hR3; have HB3 := Aside0.mk hb; have HT3 := Aside0.mk (hrel.out.1.in_ hi hb ⟨hk.1, hk.2⟩); clear hR3 hi hb hk)
                | (go_at_call 28; refine (primerref01_Texts.calls 65575 g2 s' e' q r1 r2 r3 w w3 HT3.out.r HT3.out.b (by rw [ref_Texts_eq s' e' q (by have := hrel0.out; omega) 65575 (by omega), HR0.out])).mono ?_; rintro e w4 ⟨v1, rfl, hR4, hi, hb, hk⟩; obtain ⟨Ab, cb, hab, hlb, hCb⟩ := Kd.R_reads hR4; subst hab; have HR4 := Aside0.mk hR4; have HB4 := Aside0.mk hb; have HT4 := Aside0.mk (HT3.out.ref_ hi hb hk); have HRa := Aside0.mk (Kd.R_keep (Kd.R_types HR3.out HT3.out.r.1 (by decide)) hk (fun _ h => h.2)); obtain ⟨A', c', e', hla', hCa⟩ := Kd.R_reads HRa.out; injection e' with e1 _ e3; subst e1; subst e3; have HCa := Aside0.mk hCa; have HCb := Aside0.mk hCb; clear hR4 hi hb hk hCa hCb))
            have hlr : r1.length ≤ 65536 := by
              have h := inSeq_len (fun s => inText s 0) s' e' q
              have h2 : (inTexts s' e' q).1 = r1 := by rw [HR0.out]
              rw [← h2]; exact h
            go_wp2_with fail
            go_loopw [10] (fun i W => ∃ t : Nat, t ≤ r1.length ∧ i = .int .i64 t ∧ Aside0 (Two w g g2 W r2 r3 r2 r3) ∧ Aside0 (Kd.C Kd.string W Aa r1.length r1) ∧ Aside0 (Kd.C Kd.string W Ab r1.length r1)) (fun i _ => r1.length - (intOf i).toNat)
            case atStart => exact ⟨0, Nat.zero_le _, rfl, ⟨HT4.out⟩, ⟨HCa.out⟩, ⟨HCb.out⟩⟩
            case round =>
              obtain ⟨t, ht, rfl, HT5, HCa5, HCb5⟩ := hrel
              clear HT4 HCa HCb
              by_cases htl : t < r1.length
              · obtain ⟨a1, rfl, hx1⟩ := C_str HCa5.out t htl
                obtain ⟨a2, rfl, hx2⟩ := C_str HCb5.out t htl
                have hq0 : (0 : Int) ≤ (t : Int) := by omega
                have hq1 : (t : Int) < (r1.length : Int) := by omega
                go_wp2_with fail
                go_quiet (fail)
                go_wp2
                go_roundw
                case rel => exact ⟨t + 1, by omega, by go_num, ⟨HT5.out.drewN _⟩, ⟨HCa5.out⟩, ⟨HCb5.out⟩⟩
                case measure => simp [intOf]; omega
              · obtain rfl : r1.length = t := by omega
                have hcE := cellS46_1 HT5.out.r.1
                go_wp2_with fail
                go_quiet (first
                  | (go_at_call 18; exact Calls.quiet_of_same (err_quiet g r2 r3 _ HT5.out.i.1))
                  | (go_at_call 29; exact Calls.quiet_of_same (end_quiet g r2 r3 _ HT5.out.i.1))
                  | (go_at_call 30; exact Calls.quiet_of_same (refEnd_quiet g2 r2 r3 _ HT5.out.r.1)))
                go_wp2
                go_roundw
                case rel => exact ⟨j + 1, by omega, by omega, by go_num, r2, r3, ⟨⟨HT5.out.drewN _, hsz⟩⟩⟩
                case measure => simp [intOf]; omega
        · have hd1 : (j : Int) < (xs.length : Int) := by omega
          have hd2 : decide ((j : Int) < (xs.length : Int)) = true := decide_eq_true hd1
          have hd3 : decide (j < xs.length) = true := decide_eq_true hj
          have hd4 : decide ((j : Int) < 20) = false := by simp; omega
          go_wp2
          go_ret
          exact ⟨rfl, hrel.out.1.b⟩
      · have hd3 : decide (j < xs.length) = false := by simp; omega
        have hd2 : decide ((j : Int) < (xs.length : Int)) = false := by simp; omega
        go_wp2
        go_ret
        exact ⟨rfl, hrel.out.1.b⟩
theorem opens_ask {W : World} : Opens Try.prog W 47 kAsk (fun _ => True) :=
  opens_map (opens_arr Try.underlying47 Try.underlying3 (by kernel_rfl) (by kernel_rfl)) (fun l => (l.getD 0 0, l.getD 1 0)) (fun y cs h _ => by
    obtain ⟨hl, rfl⟩ := h
    match y, hl with
    | [a, b], _ => exact ⟨rfl, trivial⟩)
end Go.Proofs.Ytcflcmoblngfbaa.PK
