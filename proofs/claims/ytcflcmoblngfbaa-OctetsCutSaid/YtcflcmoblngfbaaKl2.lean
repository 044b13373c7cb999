/- OctetsCut, the walk: whatever the numbers and wherever the bytes are cut off, the Go code answers yes. Condition: none but the numbers' being readable. -/
import Derived.Test.YtcflcmoblngfbaaKc
import Derived.Test.YtcflcmoblngfbaaKe
import Derived.Test.YtcflcmoblngfbaaKs1
import Derived.Test.YtcflcmoblngfbaaKw
namespace Go.Proofs.Ytcflcmoblngfbaa.PK
open Go.RowKit Go.Proofs.YtcflcmoblngfbaaW.PrintWords Go.Proofs.YtcflcmoblngfbaaW.PrintLast Go.Proofs.YtcflcmoblngfbaaW.PrintMore
set_option linter.unusedVariables false
set_option linter.unusedSimpArgs false
/-- What the first loop of OctetsCut carries. -/
structure CutA (w : World) (b base : Nat) (xs : List Int) (i : Nat) (v : Value) (wr : World) : Prop where
  fo : OutB wr b 0 34 #[.bool false, .bool false] base (catL (xs.take i)) false
  fe : wr.ownsRow w.heap.size 3 1 v i (nums .i64 ((List.range i).map fun j => (endL xs (j + 1) : Int)))
  fb : Below w.heap.size w wr
  fz : base ≤ wr.heap.size
  fg : w.heap.size ≤ b
  fh : w.heap.size ≤ base
/-- What the second loop of OctetsCut carries. -/
structure CutB (w : World) (g : Nat) (xs : List Int) (n c i : Nat) (v : Value) (wr : World) (s : ByteArray) (e : Int) : Prop where
  fi : IsS75 w wr g s e
  fe : wr.ownsRow w.heap.size 3 1 v n (nums .i64 ((List.range n).map fun j => (endL xs (j + 1) : Int)))
  fb : Below w.heap.size w wr
  fc : CutSt xs n c i s e
set_option maxRecDepth 100000 in
set_option maxHeartbeats 3200000 in
theorem cut_calls (A : Option Addr) (c0 : Nat) (xs : List Int) (cut : Int) (w : World) (hr : Kd.C (Kd.int .i64) w A xs.length xs) (hc : xs.length ≤ c0) (hcut : -9223372036854775808 ≤ cut ∧ cut ≤ 9223372036854775807) :
    Calls Try.prog 5 #[.slice A xs.length c0, .int .i64 cut] w fun e w' => e = .returned (.bool true) ∧ Below w.heap.size w w' := by
  have HR := Aside0.mk hr
  have hxl : xs.length ≤ 9223372036854775807 := hr.2.1
  clear hr
  obtain ⟨n, hn⟩ : ∃ n, n = min xs.length 40 := ⟨_, rfl⟩
  have hn1 : n ≤ xs.length := by omega
  have hn2 : n ≤ 40 := by omega
  have hn3 : n = xs.length ∨ n = 40 := by omega
  clear hn
  obtain ⟨hcut1, hcut2⟩ := hcut
  go_enter Try.func5, Try.ntmps5
  go_wp2_with fail
  refine (primerlaw01_speaks.calls true _ rfl).mono ?_
  rintro e w1 ⟨rfl, hb1⟩
  have HB1 := Aside0.mk hb1
  clear hb1
  go_wp2_with fail
  obtain ⟨b, hb⟩ : ∃ b, b = w1.heap.size := ⟨_, rfl⟩
  have hst : CutA w b (b + 1) xs 0 (.slice none 0 0) (w1.alloc (.cells #[.slice none 0 0, .bool false] 34)) :=
    ⟨OutB.new _ _ _ _ (by decide) (by rw [hb]; exact heap_alloc_new w1 _), own_nil _ _ _ _, below_alloc HB1.out _, by rw [hb]; simp, by rw [hb]; exact HB1.out.size, by rw [hb]; have := HB1.out.size; omega⟩
  rw [← hb]
  have HST := Aside0.mk hst
  clear hst hb
  go_loopw [6, 7, 8, 9] (fun v i _ _ wr => ∃ j : Nat, j ≤ n ∧ i = .int .i64 j ∧ Aside0 (CutA w b (b + 1) xs j v wr)) (fun _ i _ _ _ => 40 - (intOf i).toNat)
  case atStart => exact ⟨0, Nat.zero_le _, rfl, HST⟩
  case round =>
    obtain ⟨j, hj, rfl, hrel⟩ := hrel
    clear HST HB1
    by_cases hjn : j < n
    · have hd1 : (j : Int) < (xs.length : Int) := by omega
      have hd2 : (j : Int) < 40 := by omega
      obtain ⟨ad, rfl, hcell⟩ := C_int HR.out j (by omega)
      have hcw := pw_cell_below hrel.out.fb hcell
      clear hcell
      obtain ⟨x, hx⟩ : ∃ x, x = xs[j] := ⟨_, rfl⟩
      rw [← hx] at hcw
      have hmr := mask_range x
      obtain ⟨m, hm⟩ : ∃ m, Go.bits .and .i64 x 9007199254740991 = m := ⟨_, rfl⟩
      rw [hm] at hmr
      obtain ⟨hm0, hm1⟩ := hmr
      have HX : Aside0 (m = maskN xs[j]) := ⟨by rw [← hm, hx]; rfl⟩
      clear hx
      go_wp2_with fail
      have hlen : (catL (xs.take j)).length ≤ 320 := by have := endL_le xs j (by omega); unfold endL at this; omega
      refine (out_int _ _ _ _ _ _ _ _ (by exact hrel.out.fo) (by exact hrel.out.fz) m (by omega)).mono ?_
      rintro e w2 ⟨rfl, ho2, hk2⟩
      have hL : catL (xs.take j) ++ putL m = catL (xs.take (j + 1)) := by rw [catL_snoc xs j (by omega), HX.out]
      have hf : (false || !fitsN m) = false := by
        have : fitsN m = true := by unfold fitsN; simp; omega
        rw [this]; rfl
      rw [hL, hf] at ho2
      obtain ⟨csb, hblk⟩ := hrel.out.fo.blk
      have he2 := hk2.own hblk hrel.out.fe (by decide) (by decide)
      have hb2 := hrel.out.fb.trans (hk2.below (B := w.heap.size) hrel.out.fh hrel.out.fg)
      have hz2 := Nat.le_trans hrel.out.fz hk2.size
      have HO2 := Aside0.mk ho2
      have HE2 := Aside0.mk he2
      have HB2 := Aside0.mk hb2
      have HZ2 := Aside0.mk hz2
      have HG := Aside0.mk (And.intro hrel.out.fg hrel.out.fh)
      clear ho2 he2 hb2 hz2 hk2 hL hf hblk hrel csb
      go_wp2_with fail
      refine (out_bytes _ _ _ _ _ _ _ _ (by exact HO2.out)).mono ?_
      rintro e w3 ⟨rfl, rfl⟩
      obtain ⟨S, hS⟩ : ∃ S, S = strOfNums (catL (xs.take (j + 1))) := ⟨_, rfl⟩
      have hS2 : S.size = endL xs (j + 1) := by rw [hS, strOfNums_size]; rfl
      have hB2 : bytesR (catL (xs.take (j + 1))) false = .tuple #[.string S, .bool true] := by rw [hS]; rfl
      have hel := endL_le xs (j + 1) (by omega)
      rw [hB2]
      clear hS hB2
      have HE3 := Aside0.mk (own_len HE2.out (show j = ((List.range j).map fun t => (endL xs (t + 1) : Int)).length from by simp))
      obtain ⟨E, hE⟩ : ∃ E, E = endL xs (j + 1) := ⟨_, rfl⟩
      rw [← hE] at hS2 hel
      have HEE := Aside0.mk hE
      clear hE
      go_wp2_with (first
        | (at_builtin; (refine print_append_num (w0 := w) w.heap.size rfl (.tmp 38) (.tmp 41) 31 3 .i64 8 rfl Try.underlying31 info3q (by decide) _ ((List.range j).map fun t => (endL xs (t + 1) : Int)) _ rfl rfl HE3.out HB2.out HB2.out.size (by simp; omega) ?_); intro v4 w4 ho4 hb4 hg4 _; have HO4 := Aside0.mk (HO2.out.grown hg4 rfl HE3.out (by decide) (by decide)); have HE4 := Aside0.mk ho4; have HB4 := Aside0.mk hb4; have HS4 := Aside0.mk hg4.size; clear ho4 hb4 hg4))
      go_roundw
      case rel =>
        refine ⟨j + 1, by omega, by go_num, ⟨⟨HO4.out, ?_, HB4.out, Nat.le_trans HZ2.out HS4.out, HG.out.1, HG.out.2⟩⟩⟩
        have h := HE4.out
        rw [List.range_succ, List.map_append]
        have e : ((List.map (fun t => (endL xs (t + 1) : Int)) (List.range j)) ++ [(E : Int)]).length = j + 1 := by simp
        rw [e] at h
        rw [HEE.out] at h
        exact h
      case measure => simp [intOf]; omega
    · obtain rfl : n = j := by omega
      have hd4 : decide ((n : Int) < 40) = true ∨ ¬ ((n : Int) < (xs.length : Int)) ∨ decide ((n : Int) < 40) = false := by
        rcases hn3 with h | h
        · exact .inr (.inl (by omega))
        · exact .inr (.inr (by simp; omega))
      obtain ⟨S, hS⟩ : ∃ S, S = strOfNums (catL (xs.take n)) := ⟨_, rfl⟩
      obtain ⟨L, hL⟩ : ∃ L, L = endL xs n := ⟨_, rfl⟩
      have hS2 : S.size = L := by rw [hS, strOfNums_size, hL]; rfl
      have hL2 : L ≤ 320 := by have := endL_le xs n hn1; omega
      have hB2 : bytesR (catL (xs.take n)) false = .tuple #[.string S, .bool true] := by rw [hS]; rfl
      have hSb : bytesOf S = catL (xs.take n) := by rw [hS]; exact strOf_bytes _ (catL_range _)
      have HB2 := Aside0.mk hB2
      have HSb := Aside0.mk hSb
      have HLe := Aside0.mk hL
      clear hS hL hB2 hSb
      obtain ⟨hm1, hm2, hm3, hm4, hm5⟩ := modP cut L
      obtain ⟨p, hp⟩ : ∃ p, p = Int.tmod cut ((L : Int) + 1) := ⟨_, rfl⟩
      rw [← hp] at hm1 hm2 hm3 hm4 hm5
      have hR1 : Int.tmod cut ((L : Int) + 1) = p := hp.symm
      obtain ⟨cN, hcN⟩ : ∃ cN : Nat, (cN : Int) = (p + L + 1) % ((L : Int) + 1) := ⟨((p + L + 1) % ((L : Int) + 1)).toNat, Int.toNat_of_nonneg hm4⟩
      rw [← hcN] at hm3 hm4 hm5
      have hR3 : (p + L + 1) % ((L : Int) + 1) = (cN : Int) := hcN.symm
      clear hp hcN hm4
      have hcl : cN ≤ L := by omega
      by_cases hlx : n < xs.length
      · have hn40 : n = 40 := by omega
        have hd5 : (n : Int) < (xs.length : Int) := by omega
        have hd6 : decide ((n : Int) < 40) = false := by simp; omega
        clear hd4 hn3 hn40
        go_wp2_with fail
        refine (out_bytes _ _ _ _ _ _ _ _ (by exact hrel.out.fo)).mono ?_
        rintro e w3 ⟨rfl, rfl⟩
        rw [HB2.out]
        go_wp2_with fail
        obtain ⟨S2, hS3⟩ : ∃ S2, S2 = S.extract 0 cN := ⟨_, rfl⟩
        rw [← hS3]
        have hst : CutSt xs n cN 0 S2 0 := cut_start xs n cN S2 (by rw [hS3, bytesOf_extract, HSb.out]; simp)
        clear hS3
        have HST2 := Aside0.mk hst
        clear hst
        refine (octets_Open.calls S2 S2 0 w _ (by exact hrel.out.fb) rfl).mono ?_
        rintro e w4 ⟨g, rfl, hi4, hb4, hb5⟩
        have HI4 := Aside0.mk hi4
        have HB4 := Aside0.mk hb4
        have HE4 := Aside0.mk (pw_own_below hrel.out.fe hb5)
        clear hi4 hb4 hb5 hrel
        obtain ⟨A2, c2, rfl⟩ := own_slice HE4.out
        go_wp2_with fail
        go_loopw [13, 14, 15] (fun i _ _ wr => ∃ j : Nat, j ≤ n ∧ i = .int .i64 j ∧ ∃ s' e', Aside0 (CutB w g xs n cN j (.slice A2 n c2) wr s' e')) (fun i _ _ _ => n - (intOf i).toNat)
        case atStart => exact ⟨0, Nat.zero_le _, rfl, S2, 0, ⟨⟨HI4.out, HE4.out, HB4.out, HST2.out⟩⟩⟩
        case round =>
          obtain ⟨j, hj2, rfl, s', e', hrel⟩ := hrel
          clear HI4 HE4 HB4 HST2
          by_cases hjn2 : j < n
          · obtain ⟨ad, rfl, hcell⟩ := C_int HR.out j (by omega)
            obtain ⟨_, _, hA2, hrd⟩ := own_reads hrel.out.fe
            injection hA2 with hA2 _ hC2
            subst hA2
            subst hC2
            obtain ⟨ad2, rfl, hcell2⟩ := hrd.at_ (j : Int) (by omega) (by omega)
            obtain ⟨x, hx⟩ : ∃ x, x = xs[j] := ⟨_, rfl⟩
            rw [← hx] at hcell
            have hmr := mask_range x
            obtain ⟨m, hm⟩ : ∃ m, Go.bits .and .i64 x 9007199254740991 = m := ⟨_, rfl⟩
            rw [hm] at hmr
            obtain ⟨hm0, hm1⟩ := hmr
            obtain ⟨E, hE⟩ : ∃ E, E = endL xs (j + 1) := ⟨_, rfl⟩
            have hel := endL_le xs (j + 1) (by omega)
            rw [← hE] at hel
            have hrdE : rd ((List.range n).map fun t => (endL xs (t + 1) : Int)) (j : Int) = (E : Int) := by
              unfold rd
              rw [Int.toNat_natCast, List.getD_eq_getElem?_getD]
              simp [hjn2, hE]
            rw [hrdE, Int.toNat_natCast] at hcell2
            obtain ⟨hc1, hc2, hc3⟩ := cut_step xs n cN j hn1 hjn2 s' e' hrel.out.fc
            obtain ⟨r1, r2, r3, hr⟩ : ∃ r1 r2 r3, inInt s' e' = (r1, r2, r3) := ⟨_, _, _, rfl⟩
            rw [hr] at hc1 hc2 hc3
            rw [← hE] at hc2 hc3
            have hmx : maskN xs[j] = m := by rw [← hx, ← hm]; rfl
            rw [hmx] at hc2
            simp only at hc1 hc2 hc3
            have HR0 := Aside0.mk hr
            have HC1 := Aside0.mk hc1
            have HC := Aside0.mk hcell
            clear hr hrdE hx hE hmx hrd hc1 hcell
            have hd7 : decide ((j : Int) < (n : Int)) = true := by simp; omega
            have hd8 : decide (j < n) = true := by simp; omega
            by_cases hw : E ≤ cN
            · obtain ⟨rfl, rfl⟩ := hc2 hw
              have hd9 : decide ((E : Int) ≤ (cN : Int)) = true := by simp; omega
              have hd10 : decide (E ≤ cN) = true := by simp; omega
              clear hc2 hc3
              go_wp2_with fail
              refine (octets_In_Int.calls g s' e' r1 r2 0 w wr hrel.out.fi hrel.out.fb (by rw [In_Int_eq, HR0.out])).mono ?_
              rintro e w5 ⟨rfl, hi5, hb5, hk5⟩
              have hne := own_blk_ne hrel.out.fe (show Blk wr g 75 _ from hrel.out.fi.1) (by decide)
              have he5 := own_move hrel.out.fe (fun k hk => hk5.2 k (own_lt hrel.out.fe k hk) (fun h => hne (by rw [← h]; exact hk)) (by simp))
              have hcl1 := pw_cell_below hb5 HC.out
              have hcl2 := (World.cell?_of_block (hk5.2 (ad2.add j).block (World.block_lt_of_cell? wr _ hcell2) (fun h => hne (by rw [← h, block_of_add]; rfl)) (by simp))).trans hcell2
              have HI5 := Aside0.mk hi5
              have HB5 := Aside0.mk hb5
              have HE5 := Aside0.mk he5
              clear hi5 hb5 hk5 he5 hne hrel hcell2
              go_wp2_with (go_at_call 18; refine (err_quiet g r2 0 _ (by exact HI5.out.1)).mono ?_; rintro e w' ⟨rfl, rfl⟩)
              go_roundw
              case rel => exact ⟨j + 1, by omega, by go_num, r2, 0, ⟨⟨HI5.out, HE5.out, HB5.out, HC1.out⟩⟩⟩
              case measure => simp [intOf]; omega
            · obtain ⟨rfl, rfl⟩ := hc3 (by omega)
              have hd9 : decide ((E : Int) ≤ (cN : Int)) = false := by simp; omega
              have hd10 : decide (E ≤ cN) = false := by simp; omega
              clear hc2 hc3
              go_wp2_with fail
              refine (octets_In_Int.calls g s' e' 0 r2 3 w wr hrel.out.fi hrel.out.fb (by rw [In_Int_eq, HR0.out])).mono ?_
              rintro e w5 ⟨rfl, hi5, hb5, hk5⟩
              have hne := own_blk_ne hrel.out.fe (show Blk wr g 75 _ from hrel.out.fi.1) (by decide)
              have he5 := own_move hrel.out.fe (fun k hk => hk5.2 k (own_lt hrel.out.fe k hk) (fun h => hne (by rw [← h]; exact hk)) (by simp))
              have hcl1 := pw_cell_below hb5 HC.out
              have hcl2 := (World.cell?_of_block (hk5.2 (ad2.add j).block (World.block_lt_of_cell? wr _ hcell2) (fun h => hne (by rw [← h, block_of_add]; rfl)) (by simp))).trans hcell2
              have HI5 := Aside0.mk hi5
              have HB5 := Aside0.mk hb5
              have HE5 := Aside0.mk he5
              clear hi5 hb5 hk5 he5 hne hrel hcell2
              go_wp2_with (go_at_call 18; refine (err_quiet g r2 3 _ (by exact HI5.out.1)).mono ?_; rintro e w' ⟨rfl, rfl⟩)
              go_roundw
              case rel => exact ⟨j + 1, by omega, by go_num, r2, 3, ⟨⟨HI5.out, HE5.out, HB5.out, HC1.out⟩⟩⟩
              case measure => simp [intOf]; omega
          · have hd7 : decide ((j : Int) < (n : Int)) = false := by simp; omega
            have hd8 : decide (j < n) = false := by simp; omega
            go_wp2
            go_ret
            exact ⟨rfl, hrel.out.fb⟩
      · have hd5 : decide ((n : Int) < (xs.length : Int)) = false := by simp; omega
        have hd6 : decide (n < xs.length) = false := by simp; omega
        clear hd4 hn3
        go_wp2_with fail
        refine (out_bytes _ _ _ _ _ _ _ _ (by exact hrel.out.fo)).mono ?_
        rintro e w3 ⟨rfl, rfl⟩
        rw [HB2.out]
        go_wp2_with fail
        obtain ⟨S2, hS3⟩ : ∃ S2, S2 = S.extract 0 cN := ⟨_, rfl⟩
        rw [← hS3]
        have hst : CutSt xs n cN 0 S2 0 := cut_start xs n cN S2 (by rw [hS3, bytesOf_extract, HSb.out]; simp)
        clear hS3
        have HST2 := Aside0.mk hst
        clear hst
        refine (octets_Open.calls S2 S2 0 w _ (by exact hrel.out.fb) rfl).mono ?_
        rintro e w4 ⟨g, rfl, hi4, hb4, hb5⟩
        have HI4 := Aside0.mk hi4
        have HB4 := Aside0.mk hb4
        have HE4 := Aside0.mk (pw_own_below hrel.out.fe hb5)
        clear hi4 hb4 hb5 hrel
        obtain ⟨A2, c2, rfl⟩ := own_slice HE4.out
        go_wp2_with fail
        go_loopw [13, 14, 15] (fun i _ _ wr => ∃ j : Nat, j ≤ n ∧ i = .int .i64 j ∧ ∃ s' e', Aside0 (CutB w g xs n cN j (.slice A2 n c2) wr s' e')) (fun i _ _ _ => n - (intOf i).toNat)
        case atStart => exact ⟨0, Nat.zero_le _, rfl, S2, 0, ⟨⟨HI4.out, HE4.out, HB4.out, HST2.out⟩⟩⟩
        case round =>
          obtain ⟨j, hj2, rfl, s', e', hrel⟩ := hrel
          clear HI4 HE4 HB4 HST2
          by_cases hjn2 : j < n
          · obtain ⟨ad, rfl, hcell⟩ := C_int HR.out j (by omega)
            obtain ⟨_, _, hA2, hrd⟩ := own_reads hrel.out.fe
            injection hA2 with hA2 _ hC2
            subst hA2
            subst hC2
            obtain ⟨ad2, rfl, hcell2⟩ := hrd.at_ (j : Int) (by omega) (by omega)
            obtain ⟨x, hx⟩ : ∃ x, x = xs[j] := ⟨_, rfl⟩
            rw [← hx] at hcell
            have hmr := mask_range x
            obtain ⟨m, hm⟩ : ∃ m, Go.bits .and .i64 x 9007199254740991 = m := ⟨_, rfl⟩
            rw [hm] at hmr
            obtain ⟨hm0, hm1⟩ := hmr
            obtain ⟨E, hE⟩ : ∃ E, E = endL xs (j + 1) := ⟨_, rfl⟩
            have hel := endL_le xs (j + 1) (by omega)
            rw [← hE] at hel
            have hrdE : rd ((List.range n).map fun t => (endL xs (t + 1) : Int)) (j : Int) = (E : Int) := by
              unfold rd
              rw [Int.toNat_natCast, List.getD_eq_getElem?_getD]
              simp [hjn2, hE]
            rw [hrdE, Int.toNat_natCast] at hcell2
            obtain ⟨hc1, hc2, hc3⟩ := cut_step xs n cN j hn1 hjn2 s' e' hrel.out.fc
            obtain ⟨r1, r2, r3, hr⟩ : ∃ r1 r2 r3, inInt s' e' = (r1, r2, r3) := ⟨_, _, _, rfl⟩
            rw [hr] at hc1 hc2 hc3
            rw [← hE] at hc2 hc3
            have hmx : maskN xs[j] = m := by rw [← hx, ← hm]; rfl
            rw [hmx] at hc2
            simp only at hc1 hc2 hc3
            have HR0 := Aside0.mk hr
            have HC1 := Aside0.mk hc1
            have HC := Aside0.mk hcell
            clear hr hrdE hx hE hmx hrd hc1 hcell
            have hd7 : decide ((j : Int) < (n : Int)) = true := by simp; omega
            have hd8 : decide (j < n) = true := by simp; omega
            by_cases hw : E ≤ cN
            · obtain ⟨rfl, rfl⟩ := hc2 hw
              have hd9 : decide ((E : Int) ≤ (cN : Int)) = true := by simp; omega
              have hd10 : decide (E ≤ cN) = true := by simp; omega
              clear hc2 hc3
              go_wp2_with fail
              refine (octets_In_Int.calls g s' e' r1 r2 0 w wr hrel.out.fi hrel.out.fb (by rw [In_Int_eq, HR0.out])).mono ?_
              rintro e w5 ⟨rfl, hi5, hb5, hk5⟩
              have hne := own_blk_ne hrel.out.fe (show Blk wr g 75 _ from hrel.out.fi.1) (by decide)
              have he5 := own_move hrel.out.fe (fun k hk => hk5.2 k (own_lt hrel.out.fe k hk) (fun h => hne (by rw [← h]; exact hk)) (by simp))
              have hcl1 := pw_cell_below hb5 HC.out
              have hcl2 := (World.cell?_of_block (hk5.2 (ad2.add j).block (World.block_lt_of_cell? wr _ hcell2) (fun h => hne (by rw [← h, block_of_add]; rfl)) (by simp))).trans hcell2
              have HI5 := Aside0.mk hi5
              have HB5 := Aside0.mk hb5
              have HE5 := Aside0.mk he5
              clear hi5 hb5 hk5 he5 hne hrel hcell2
              go_wp2_with (go_at_call 18; refine (err_quiet g r2 0 _ (by exact HI5.out.1)).mono ?_; rintro e w' ⟨rfl, rfl⟩)
              go_roundw
              case rel => exact ⟨j + 1, by omega, by go_num, r2, 0, ⟨⟨HI5.out, HE5.out, HB5.out, HC1.out⟩⟩⟩
              case measure => simp [intOf]; omega
            · obtain ⟨rfl, rfl⟩ := hc3 (by omega)
              have hd9 : decide ((E : Int) ≤ (cN : Int)) = false := by simp; omega
              have hd10 : decide (E ≤ cN) = false := by simp; omega
              clear hc2 hc3
              go_wp2_with fail
              refine (octets_In_Int.calls g s' e' 0 r2 3 w wr hrel.out.fi hrel.out.fb (by rw [In_Int_eq, HR0.out])).mono ?_
              rintro e w5 ⟨rfl, hi5, hb5, hk5⟩
              have hne := own_blk_ne hrel.out.fe (show Blk wr g 75 _ from hrel.out.fi.1) (by decide)
              have he5 := own_move hrel.out.fe (fun k hk => hk5.2 k (own_lt hrel.out.fe k hk) (fun h => hne (by rw [← h]; exact hk)) (by simp))
              have hcl1 := pw_cell_below hb5 HC.out
              have hcl2 := (World.cell?_of_block (hk5.2 (ad2.add j).block (World.block_lt_of_cell? wr _ hcell2) (fun h => hne (by rw [← h, block_of_add]; rfl)) (by simp))).trans hcell2
              have HI5 := Aside0.mk hi5
              have HB5 := Aside0.mk hb5
              have HE5 := Aside0.mk he5
              clear hi5 hb5 hk5 he5 hne hrel hcell2
              go_wp2_with (go_at_call 18; refine (err_quiet g r2 3 _ (by exact HI5.out.1)).mono ?_; rintro e w' ⟨rfl, rfl⟩)
              go_roundw
              case rel => exact ⟨j + 1, by omega, by go_num, r2, 3, ⟨⟨HI5.out, HE5.out, HB5.out, HC1.out⟩⟩⟩
              case measure => simp [intOf]; omega
          · have hd7 : decide ((j : Int) < (n : Int)) = false := by simp; omega
            have hd8 : decide (j < n) = false := by simp; omega
            go_wp2
            go_ret
            exact ⟨rfl, hrel.out.fb⟩
end Go.Proofs.Ytcflcmoblngfbaa.PK
