/- OctetsBack, the walk: whatever the items, the Go code answers yes. Condition: none but the items' being readable. -/
import Derived.Test.YtcflcmoblngfbaaKl4a
namespace Go.Proofs.Ytcflcmoblngfbaa.PK
open Go.RowKit Go.Proofs.YtcflcmoblngfbaaW.PrintWords Go.Proofs.YtcflcmoblngfbaaW.PrintLast Go.Proofs.YtcflcmoblngfbaaW.PrintMore
open Go.ChangeShapes Go.WideShapes
set_option linter.unusedVariables false
set_option linter.unusedSimpArgs false
/-- What the first loop of OctetsBack carries. -/
structure BackA (w1 : World) (b base : Nat) (xs : List ItemT) (j : Nat) (wr : World) : Prop where
  fo : OutI w1 b 0 34 #[.bool false, .bool false] base wr (catI xs j) (badI xs j)
  fl : ∀ (u : Nat) (hu : u < j) (hl : u < xs.length), itLarge xs[u] = false
set_option maxRecDepth 100000 in
set_option maxHeartbeats 6400000 in
theorem back_calls (A : Option Addr) (c0 : Nat) (xs : List ItemT) (w : World) (hr : kItem.C w A xs.length xs) (hc : xs.length ≤ c0) :
    Calls Try.prog 8 #[.slice A xs.length c0] w fun e w' => e = .returned (.bool true) ∧ Below w.heap.size w w' := by
  have hu := Try.underlying60
  have HR := Aside0.mk hr
  have hxl : xs.length ≤ 9223372036854775807 := hr.2.1
  clear hr
  obtain ⟨n, hn⟩ : ∃ n, n = min xs.length 20 := ⟨_, rfl⟩
  have hn1 : n ≤ xs.length := by omega
  have hn2 : n ≤ 20 := by omega
  have hn3 : n = xs.length ∨ n = 20 := by omega
  clear hn
  go_enter Try.func8, Try.ntmps8
  go_wp2_with fail
  refine (primerlaw01_speaks.calls true _ rfl).mono ?_
  rintro e w0 ⟨rfl, hb1⟩
  have HB1 := Aside0.mk hb1
  clear hb1
  go_wp2_with fail
  obtain ⟨b, hb⟩ : ∃ b, b = w0.heap.size := ⟨_, rfl⟩
  obtain ⟨w1, hw1⟩ : ∃ w1, w1 = w0.alloc (.cells #[.slice none 0 0, .bool false] 34) := ⟨_, rfl⟩
  have hwb : w.heap.size ≤ b := by rw [hb]; exact HB1.out.size
  obtain ⟨base, hba⟩ : ∃ base, base = b + 1 := ⟨_, rfl⟩
  have hwa : w.heap.size ≤ base := by omega
  have hst : BackA w1 b base xs 0 w1 :=
    ⟨⟨OutB.new _ _ _ _ (by decide) (by rw [hb, hw1]; exact heap_alloc_new w0 _), OutK.refl _ _ _, by rw [hba, hb, hw1]; simp⟩, fun u hu => absurd hu (by omega)⟩
  have HBW := Aside0.mk (show Below w.heap.size w w1 from by rw [hw1]; exact below_alloc HB1.out _)
  simp only [← hw1]
  rw [← hb]
  have HST := Aside0.mk hst
  clear hst hb hw1 hba HB1
  go_loopw [4, 5, 6, 7, 8] (fun f i _ _ _ wr => ∃ j : Nat, j ≤ n ∧ i = .int .i64 j ∧ ∃ fb, f = .bool fb ∧ Aside0 (fb = !badI xs j) ∧ Aside0 (BackA w1 b base xs j wr)) (fun _ i _ _ _ _ => 20 - (intOf i).toNat)
  case atStart => exact ⟨0, Nat.zero_le _, rfl, true, rfl, ⟨rfl⟩, HST⟩
  case round =>
    obtain ⟨j, hj, rfl, fb, rfl, HFB0, hrel⟩ := hrel
    clear HST
    have HBr := Aside0.mk (outI_below HBW.out hrel.out.fo hwa hwb)
    by_cases hjn : j < n
    · have hd1 : (j : Int) < (xs.length : Int) := by omega
      have hd2 : (j : Int) < 20 := by omega
      obtain ⟨ad, k0, n0, b0, t0, A4, c4, ns, A5, c5, ts, hA, hx, HC0, HC1, HC2, HC3, HC4, HC5, HC4s, hc4, HC5s, hc5⟩ := C_item HR.out j (by omega)
      subst hA
      have hbs : badI xs (j + 1) = (badI xs j || itemBad k0 n0 b0 t0 ns ts) := by rw [badI_step xs j (by omega), hx]; rfl
      have hcs : catI xs (j + 1) = catI xs j ++ itemL k0 n0 b0 t0 ns ts := by rw [catI_step xs j (by omega), hx]; rfl
      have hlx : itLarge (xs[j]'(by omega)) = largeB t0 ns ts := by rw [hx]; rfl
      have HBS := Aside0.mk hbs
      have HCS := Aside0.mk hcs
      have HLX := Aside0.mk hlx
      clear hbs hcs hx hlx
      have a0 := pw_cell_below HBr.out HC0.out
      have a1 := pw_cell_below HBr.out HC1.out
      have a2 := pw_cell_below HBr.out HC2.out
      have a3 := pw_cell_below HBr.out HC3.out
      have a4 := pw_cell_below HBr.out HC4.out
      have a5 := pw_cell_below HBr.out HC5.out
      by_cases hL : largeB t0 ns ts = true
      · have HL := Aside0.mk hL
        clear hL
        go_wp2_with fail
        refine (primerlaw01_large.calls 210 k0 n0 b0 t0 A4 c4 ns A5 c5 ts true wr (Kd.C_below HC4s.out HBr.out) hc4 (Kd.C_below HC5s.out HBr.out) hc5 (by rw [large_eq _ _ _ _ _ _ _ (by omega), HL.out])).mono ?_
        rintro e w2 ⟨rfl, hb2⟩
        have HB2 := Aside0.mk (below_then HBr.out HBr.out.size hb2)
        clear hb2
        go_wp2
        go_ret
        exact ⟨rfl, HB2.out⟩
      have hL2 : largeB t0 ns ts = false := by cases h : largeB t0 ns ts <;> simp_all
      have HL := Aside0.mk hL2
      obtain ⟨_, hns, hts, _⟩ := large_lens hL2
      clear hL hL2
      go_wp2_with fail
      refine (primerlaw01_large.calls 210 k0 n0 b0 t0 A4 c4 ns A5 c5 ts false wr (Kd.C_below HC4s.out HBr.out) hc4 (Kd.C_below HC5s.out HBr.out) hc5 (by rw [large_eq _ _ _ _ _ _ _ (by omega), HL.out])).mono ?_
      rintro e w2 ⟨rfl, hb2⟩
      have HI2 := Aside0.mk (outI_grow _ _ _ _ hrel.out.fo hb2)
      have HB2 := Aside0.mk (outI_below HBW.out HI2.out hwa hwb)
      have HFL0 := Aside0.mk hrel.out.fl
      clear hb2 hrel a0 a1 a2 a3 a4 a5
      have x0 := pw_cell_below HB2.out HC0.out
      have x1 := pw_cell_below HB2.out HC1.out
      have x2 := pw_cell_below HB2.out HC2.out
      have x3 := pw_cell_below HB2.out HC3.out
      have x4 := pw_cell_below HB2.out HC4.out
      have x5 := pw_cell_below HB2.out HC5.out
      go_wp2_with fail
      refine (write_calls (takes_out w1 b 0 34 #[.bool false, .bool false] base) outI_grow k0 n0 b0 t0 A4 c4 ns A5 c5 ts (catI xs j) (badI xs j) w2 HI2.out (fun w' _ _ h => Kd.C_below HC4s.out (outI_below HBW.out h hwa hwb)) hc4 (fun w' _ _ h => Kd.C_below HC5s.out (outI_below HBW.out h hwa hwb)) hc5
        (ok_back (by have h := catI_len xs j (by omega) (fun u hu => HFL0.out u hu (by omega)); omega) hts hns)).mono ?_
      rintro e w3 ⟨rfl, hI3⟩
      rw [← HCS.out, ← HBS.out] at hI3
      have HI3 := Aside0.mk hI3
      have HB3 := Aside0.mk (outI_below HBW.out hI3 hwa hwb)
      clear hI3 x0 x1 x2 x3 x4 x5
      have e0 := pw_cell_below HB3.out HC0.out
      have e1 := pw_cell_below HB3.out HC1.out
      have e2 := pw_cell_below HB3.out HC2.out
      have e3 := pw_cell_below HB3.out HC3.out
      have e4 := pw_cell_below HB3.out HC4.out
      have e5 := pw_cell_below HB3.out HC5.out
      have hq5 : 0 ≤ kindN k0 ∧ kindN k0 ≤ 4 := mod5 k0
      obtain ⟨q, hq⟩ : ∃ q, q = kindN k0 := ⟨_, rfl⟩
      rw [← hq] at hq5
      have HQ := Aside0.mk hq
      clear hq
      go_wp2_with fail
      refine (primerlaw01_kind.calls k0 n0 b0 t0 A4 c4 ns A5 c5 ts q w3 (Kd.C_below HC4s.out HB3.out) hc4 (Kd.C_below HC5s.out HB3.out) hc5 (by rw [kind_f, HQ.out])).mono ?_
      rintro e w4 ⟨rfl, hb4⟩
      have HI4 := Aside0.mk (outI_grow _ _ _ _ HI3.out hb4)
      have HB4 := Aside0.mk (outI_below HBW.out HI4.out hwa hwb)
      clear hb4 e0 e1 e2 e3 e4 e5 HI3 HB3 HI2 HB2
      have d0 := pw_cell_below HB4.out HC0.out
      have d1 := pw_cell_below HB4.out HC1.out
      have d2 := pw_cell_below HB4.out HC2.out
      have d3 := pw_cell_below HB4.out HC3.out
      have d4 := pw_cell_below HB4.out HC4.out
      have d5 := pw_cell_below HB4.out HC5.out
      have HFL := Aside0.mk (show ∀ (u : Nat) (hu : u < j + 1) (hl : u < xs.length), itLarge xs[u] = false from fun u hu hl => by
        by_cases h : u < j
        · exact HFL0.out u h hl
        · obtain rfl : u = j := by omega
          rw [HLX.out]; exact HL.out)
      clear HFL0
      cases fb
      · have HFB := Aside0.mk (show badI xs j = true from by rw [bad_of HFB0.out]; rfl)
        by_cases q0 : q = 0
        · subst q0
          have hbn : badI xs (j + 1) = true := by rw [HBS.out, HFB.out]; rfl
          have HBN := Aside0.mk hbn
          clear hbn
          obtain ⟨S, hS⟩ : ∃ S, bytesR (catI xs (j + 1)) (badI xs (j + 1)) = .tuple #[.string S, .bool false] := ⟨_, by rw [HBN.out]; rfl⟩
          have HS := Aside0.mk hS
          clear hS
          go_wp2_with fail
          refine (out_bytes _ _ _ _ _ _ _ _ (by exact HI4.out.1)).mono ?_
          rintro e w6 ⟨rfl, rfl⟩
          rw [HS.out]
          go_wp2_with fail
          go_roundw
          case rel => exact ⟨j + 1, by omega, by go_num, false, rfl, ⟨by rw [HBN.out]; rfl⟩, ⟨⟨HI4.out, HFL.out⟩⟩⟩
          case measure => simp [intOf]; omega

        have q0' : (q == 0) = false := by rw [beq_eq_false_iff_ne]; exact q0
        by_cases q3 : q = 3
        · subst q3
          go_wp2_with fail
          go_loopw [4, 6] (fun f i wr2 => ∃ u : Nat, u ≤ ns.length ∧ i = .int .i64 u ∧ ∃ gb, f = .bool gb ∧ Aside0 (gb = (false && (ns.take u).all fitsN)) ∧ Aside0 (OutI w1 b 0 34 #[.bool false, .bool false] base wr2 (catI xs (j + 1)) (badI xs (j + 1)))) (fun _ i _ => ns.length - (intOf i).toNat)
          case atStart => exact ⟨0, Nat.zero_le _, rfl, false, rfl, ⟨rfl⟩, HI4⟩
          case round =>
            obtain ⟨u, hu, rfl, gb, rfl, HGB, HI5⟩ := hrel
            have HB5 := Aside0.mk (outI_below HBW.out HI5.out (by omega) (by omega))
            clear d0 d1 d2 d3 d4 d5
            have g0 := pw_cell_below HB5.out HC0.out
            have g1 := pw_cell_below HB5.out HC1.out
            have g2 := pw_cell_below HB5.out HC2.out
            have g3 := pw_cell_below HB5.out HC3.out
            have g4 := pw_cell_below HB5.out HC4.out
            have g5 := pw_cell_below HB5.out HC5.out
            have hnl := HL.out
            by_cases hun : u < ns.length
            · have hd7 : decide ((u : Int) < (ns.length : Int)) = true := by simp; omega
              obtain ⟨ad4, hA4, hcell⟩ := C_int (Kd.C_below HC4s.out HB5.out) u hun
              obtain ⟨y, hy⟩ : ∃ y, ns[u] = y := ⟨_, rfl⟩
              rw [hy] at hcell
              have HY := Aside0.mk hy
              have hstep := all_step fitsN ns u hun
              rw [hy] at hstep
              have HST := Aside0.mk hstep
              clear hy hstep
              subst hA4
              cases gb
              · go_wp2_with fail
                go_roundw
                case rel => exact ⟨u + 1, by omega, by go_num, false, rfl, ⟨by rw [HST.out, ← Bool.and_assoc, ← HGB.out]; rfl⟩, HI5⟩
                case measure => simp [intOf]; omega
              · by_cases hlo : -9007199254740992 ≤ y
                · have hlo' : decide (y ≥ -9007199254740992) = true := by simp; omega
                  by_cases hhi : y ≤ 9007199254740992
                  · have hhi' : decide (y ≤ 9007199254740992) = true := by simp; omega
                    go_wp2_with fail
                    go_roundw
                    case rel => exact ⟨u + 1, by omega, by go_num, true, rfl, ⟨by rw [HST.out, ← Bool.and_assoc, ← HGB.out, fits_in hlo hhi]; rfl⟩, HI5⟩
                    case measure => simp [intOf]; omega
                  · have hhi' : decide (y ≤ 9007199254740992) = false := by simp; omega
                    go_wp2_with fail
                    go_roundw
                    case rel => exact ⟨u + 1, by omega, by go_num, false, rfl, ⟨by rw [HST.out, ← Bool.and_assoc, ← HGB.out, fits_hi hhi]; rfl⟩, HI5⟩
                    case measure => simp [intOf]; omega
                · have hlo' : decide (y ≥ -9007199254740992) = false := by simp; omega
                  go_wp2_with fail
                  go_roundw
                  case rel => exact ⟨u + 1, by omega, by go_num, false, rfl, ⟨by rw [HST.out, ← Bool.and_assoc, ← HGB.out, fits_lo hlo]; rfl⟩, HI5⟩
                  case measure => simp [intOf]; omega
            · have hd7 : decide ((u : Int) < (ns.length : Int)) = false := by simp; omega
              obtain rfl : ns.length = u := by omega
              have hg2 : gb = (false && ns.all fitsN) := by have h := HGB.out; rwa [List.take_length] at h
              have HG2 := Aside0.mk hg2
              clear hg2 HI4
              have HI4 := HI5
              cases gb
              · have hbn : badI xs (j + 1) = true := by rw [HBS.out, HFB.out, item_bad3 HQ.out.symm hns]; have h := HG2.out; revert h; cases ns.all fitsN <;> simp
                have HBN := Aside0.mk hbn
                clear hbn
                obtain ⟨S, hS⟩ : ∃ S, bytesR (catI xs (j + 1)) (badI xs (j + 1)) = .tuple #[.string S, .bool false] := ⟨_, by rw [HBN.out]; rfl⟩
                have HS := Aside0.mk hS
                clear hS
                go_wp2_with fail
                refine (out_bytes _ _ _ _ _ _ _ _ (by exact HI4.out.1)).mono ?_
                rintro e w6 ⟨rfl, rfl⟩
                rw [HS.out]
                go_wp2_with fail
                go_roundw
                case rel => exact ⟨j + 1, by omega, by go_num, false, rfl, ⟨by rw [HBN.out]; rfl⟩, ⟨⟨HI4.out, HFL.out⟩⟩⟩
                case measure => simp [intOf]; omega
              · have hbn : badI xs (j + 1) = false := by rw [HBS.out, HFB.out, item_bad3 HQ.out.symm hns]; have h := HG2.out; revert h; cases ns.all fitsN <;> simp
                have HBN := Aside0.mk hbn
                clear hbn
                obtain ⟨S, hS⟩ : ∃ S, bytesR (catI xs (j + 1)) (badI xs (j + 1)) = .tuple #[.string S, .bool true] := ⟨_, by rw [HBN.out]; rfl⟩
                have HS := Aside0.mk hS
                clear hS
                go_wp2_with fail
                refine (out_bytes _ _ _ _ _ _ _ _ (by exact HI4.out.1)).mono ?_
                rintro e w6 ⟨rfl, rfl⟩
                rw [HS.out]
                go_wp2_with fail
                go_roundw
                case rel => exact ⟨j + 1, by omega, by go_num, true, rfl, ⟨by rw [HBN.out]; rfl⟩, ⟨⟨HI4.out, HFL.out⟩⟩⟩
                case measure => simp [intOf]; omega
        have q3' : (q == 3) = false := by rw [beq_eq_false_iff_ne]; exact q3

        have hbn : badI xs (j + 1) = true := by rw [HBS.out, HFB.out, item_badE (by rw [← HQ.out]; exact q0) (by rw [← HQ.out]; exact q3) HL.out]; rfl
        have HBN := Aside0.mk hbn
        clear hbn
        obtain ⟨S, hS⟩ : ∃ S, bytesR (catI xs (j + 1)) (badI xs (j + 1)) = .tuple #[.string S, .bool false] := ⟨_, by rw [HBN.out]; rfl⟩
        have HS := Aside0.mk hS
        clear hS
        go_wp2_with fail
        refine (out_bytes _ _ _ _ _ _ _ _ (by exact HI4.out.1)).mono ?_
        rintro e w6 ⟨rfl, rfl⟩
        rw [HS.out]
        go_wp2_with fail
        go_roundw
        case rel => exact ⟨j + 1, by omega, by go_num, false, rfl, ⟨by rw [HBN.out]; rfl⟩, ⟨⟨HI4.out, HFL.out⟩⟩⟩
        case measure => simp [intOf]; omega
      · have HFB := Aside0.mk (show badI xs j = false from by rw [bad_of HFB0.out]; rfl)
        by_cases q0 : q = 0
        · subst q0
          by_cases hlo : -9007199254740992 ≤ n0
          · have hlo' : decide (n0 ≥ -9007199254740992) = true := by simp; omega
            by_cases hhi : n0 ≤ 9007199254740992
            · have hhi' : decide (n0 ≤ 9007199254740992) = true := by simp; omega
              have hbn : badI xs (j + 1) = false := by rw [HBS.out, HFB.out, item_bad0 HQ.out.symm, fits_in hlo hhi]; rfl
              have HBN := Aside0.mk hbn
              clear hbn
              obtain ⟨S, hS⟩ : ∃ S, bytesR (catI xs (j + 1)) (badI xs (j + 1)) = .tuple #[.string S, .bool true] := ⟨_, by rw [HBN.out]; rfl⟩
              have HS := Aside0.mk hS
              clear hS
              go_wp2_with fail
              refine (out_bytes _ _ _ _ _ _ _ _ (by exact HI4.out.1)).mono ?_
              rintro e w6 ⟨rfl, rfl⟩
              rw [HS.out]
              go_wp2_with fail
              go_roundw
              case rel => exact ⟨j + 1, by omega, by go_num, true, rfl, ⟨by rw [HBN.out]; rfl⟩, ⟨⟨HI4.out, HFL.out⟩⟩⟩
              case measure => simp [intOf]; omega
            · have hhi' : decide (n0 ≤ 9007199254740992) = false := by simp; omega
              have hbn : badI xs (j + 1) = true := by rw [HBS.out, HFB.out, item_bad0 HQ.out.symm, fits_hi hhi]; rfl
              have HBN := Aside0.mk hbn
              clear hbn
              obtain ⟨S, hS⟩ : ∃ S, bytesR (catI xs (j + 1)) (badI xs (j + 1)) = .tuple #[.string S, .bool false] := ⟨_, by rw [HBN.out]; rfl⟩
              have HS := Aside0.mk hS
              clear hS
              go_wp2_with fail
              refine (out_bytes _ _ _ _ _ _ _ _ (by exact HI4.out.1)).mono ?_
              rintro e w6 ⟨rfl, rfl⟩
              rw [HS.out]
              go_wp2_with fail
              go_roundw
              case rel => exact ⟨j + 1, by omega, by go_num, false, rfl, ⟨by rw [HBN.out]; rfl⟩, ⟨⟨HI4.out, HFL.out⟩⟩⟩
              case measure => simp [intOf]; omega
          · have hlo' : decide (n0 ≥ -9007199254740992) = false := by simp; omega
            have hbn : badI xs (j + 1) = true := by rw [HBS.out, HFB.out, item_bad0 HQ.out.symm, fits_lo hlo]; rfl
            have HBN := Aside0.mk hbn
            clear hbn
            obtain ⟨S, hS⟩ : ∃ S, bytesR (catI xs (j + 1)) (badI xs (j + 1)) = .tuple #[.string S, .bool false] := ⟨_, by rw [HBN.out]; rfl⟩
            have HS := Aside0.mk hS
            clear hS
            go_wp2_with fail
            refine (out_bytes _ _ _ _ _ _ _ _ (by exact HI4.out.1)).mono ?_
            rintro e w6 ⟨rfl, rfl⟩
            rw [HS.out]
            go_wp2_with fail
            go_roundw
            case rel => exact ⟨j + 1, by omega, by go_num, false, rfl, ⟨by rw [HBN.out]; rfl⟩, ⟨⟨HI4.out, HFL.out⟩⟩⟩
            case measure => simp [intOf]; omega

        have q0' : (q == 0) = false := by rw [beq_eq_false_iff_ne]; exact q0
        by_cases q3 : q = 3
        · subst q3
          go_wp2_with fail
          go_loopw [4, 6] (fun f i wr2 => ∃ u : Nat, u ≤ ns.length ∧ i = .int .i64 u ∧ ∃ gb, f = .bool gb ∧ Aside0 (gb = (true && (ns.take u).all fitsN)) ∧ Aside0 (OutI w1 b 0 34 #[.bool false, .bool false] base wr2 (catI xs (j + 1)) (badI xs (j + 1)))) (fun _ i _ => ns.length - (intOf i).toNat)
          case atStart => exact ⟨0, Nat.zero_le _, rfl, true, rfl, ⟨rfl⟩, HI4⟩
          case round =>
            obtain ⟨u, hu, rfl, gb, rfl, HGB, HI5⟩ := hrel
            have HB5 := Aside0.mk (outI_below HBW.out HI5.out (by omega) (by omega))
            clear d0 d1 d2 d3 d4 d5
            have g0 := pw_cell_below HB5.out HC0.out
            have g1 := pw_cell_below HB5.out HC1.out
            have g2 := pw_cell_below HB5.out HC2.out
            have g3 := pw_cell_below HB5.out HC3.out
            have g4 := pw_cell_below HB5.out HC4.out
            have g5 := pw_cell_below HB5.out HC5.out
            have hnl := HL.out
            by_cases hun : u < ns.length
            · have hd7 : decide ((u : Int) < (ns.length : Int)) = true := by simp; omega
              obtain ⟨ad4, hA4, hcell⟩ := C_int (Kd.C_below HC4s.out HB5.out) u hun
              obtain ⟨y, hy⟩ : ∃ y, ns[u] = y := ⟨_, rfl⟩
              rw [hy] at hcell
              have HY := Aside0.mk hy
              have hstep := all_step fitsN ns u hun
              rw [hy] at hstep
              have HST := Aside0.mk hstep
              clear hy hstep
              subst hA4
              cases gb
              · go_wp2_with fail
                go_roundw
                case rel => exact ⟨u + 1, by omega, by go_num, false, rfl, ⟨by rw [HST.out, ← Bool.and_assoc, ← HGB.out]; rfl⟩, HI5⟩
                case measure => simp [intOf]; omega
              · by_cases hlo : -9007199254740992 ≤ y
                · have hlo' : decide (y ≥ -9007199254740992) = true := by simp; omega
                  by_cases hhi : y ≤ 9007199254740992
                  · have hhi' : decide (y ≤ 9007199254740992) = true := by simp; omega
                    go_wp2_with fail
                    go_roundw
                    case rel => exact ⟨u + 1, by omega, by go_num, true, rfl, ⟨by rw [HST.out, ← Bool.and_assoc, ← HGB.out, fits_in hlo hhi]; rfl⟩, HI5⟩
                    case measure => simp [intOf]; omega
                  · have hhi' : decide (y ≤ 9007199254740992) = false := by simp; omega
                    go_wp2_with fail
                    go_roundw
                    case rel => exact ⟨u + 1, by omega, by go_num, false, rfl, ⟨by rw [HST.out, ← Bool.and_assoc, ← HGB.out, fits_hi hhi]; rfl⟩, HI5⟩
                    case measure => simp [intOf]; omega
                · have hlo' : decide (y ≥ -9007199254740992) = false := by simp; omega
                  go_wp2_with fail
                  go_roundw
                  case rel => exact ⟨u + 1, by omega, by go_num, false, rfl, ⟨by rw [HST.out, ← Bool.and_assoc, ← HGB.out, fits_lo hlo]; rfl⟩, HI5⟩
                  case measure => simp [intOf]; omega
            · have hd7 : decide ((u : Int) < (ns.length : Int)) = false := by simp; omega
              obtain rfl : ns.length = u := by omega
              have hg2 : gb = (true && ns.all fitsN) := by have h := HGB.out; rwa [List.take_length] at h
              have HG2 := Aside0.mk hg2
              clear hg2 HI4
              have HI4 := HI5
              cases gb
              · have hbn : badI xs (j + 1) = true := by rw [HBS.out, HFB.out, item_bad3 HQ.out.symm hns]; have h := HG2.out; revert h; cases ns.all fitsN <;> simp
                have HBN := Aside0.mk hbn
                clear hbn
                obtain ⟨S, hS⟩ : ∃ S, bytesR (catI xs (j + 1)) (badI xs (j + 1)) = .tuple #[.string S, .bool false] := ⟨_, by rw [HBN.out]; rfl⟩
                have HS := Aside0.mk hS
                clear hS
                go_wp2_with fail
                refine (out_bytes _ _ _ _ _ _ _ _ (by exact HI4.out.1)).mono ?_
                rintro e w6 ⟨rfl, rfl⟩
                rw [HS.out]
                go_wp2_with fail
                go_roundw
                case rel => exact ⟨j + 1, by omega, by go_num, false, rfl, ⟨by rw [HBN.out]; rfl⟩, ⟨⟨HI4.out, HFL.out⟩⟩⟩
                case measure => simp [intOf]; omega
              · have hbn : badI xs (j + 1) = false := by rw [HBS.out, HFB.out, item_bad3 HQ.out.symm hns]; have h := HG2.out; revert h; cases ns.all fitsN <;> simp
                have HBN := Aside0.mk hbn
                clear hbn
                obtain ⟨S, hS⟩ : ∃ S, bytesR (catI xs (j + 1)) (badI xs (j + 1)) = .tuple #[.string S, .bool true] := ⟨_, by rw [HBN.out]; rfl⟩
                have HS := Aside0.mk hS
                clear hS
                go_wp2_with fail
                refine (out_bytes _ _ _ _ _ _ _ _ (by exact HI4.out.1)).mono ?_
                rintro e w6 ⟨rfl, rfl⟩
                rw [HS.out]
                go_wp2_with fail
                go_roundw
                case rel => exact ⟨j + 1, by omega, by go_num, true, rfl, ⟨by rw [HBN.out]; rfl⟩, ⟨⟨HI4.out, HFL.out⟩⟩⟩
                case measure => simp [intOf]; omega
        have q3' : (q == 3) = false := by rw [beq_eq_false_iff_ne]; exact q3

        have hbn : badI xs (j + 1) = false := by rw [HBS.out, HFB.out, item_badE (by rw [← HQ.out]; exact q0) (by rw [← HQ.out]; exact q3) HL.out]; rfl
        have HBN := Aside0.mk hbn
        clear hbn
        obtain ⟨S, hS⟩ : ∃ S, bytesR (catI xs (j + 1)) (badI xs (j + 1)) = .tuple #[.string S, .bool true] := ⟨_, by rw [HBN.out]; rfl⟩
        have HS := Aside0.mk hS
        clear hS
        go_wp2_with fail
        refine (out_bytes _ _ _ _ _ _ _ _ (by exact HI4.out.1)).mono ?_
        rintro e w6 ⟨rfl, rfl⟩
        rw [HS.out]
        go_wp2_with fail
        go_roundw
        case rel => exact ⟨j + 1, by omega, by go_num, true, rfl, ⟨by rw [HBN.out]; rfl⟩, ⟨⟨HI4.out, HFL.out⟩⟩⟩
        case measure => simp [intOf]; omega
    · obtain rfl : n = j := by omega
      have hd4 : True := trivial
      have HFB := HFB0
      by_cases hlx : n < xs.length
      · have hn20 : n = 20 := by omega
        have hd5 : (n : Int) < (xs.length : Int) := by omega
        have hd6 : decide ((n : Int) < 20) = false := by simp; omega
        clear hd4 hn3
        cases fb
        · obtain ⟨S, hS⟩ : ∃ S, bytesR (catI xs n) (badI xs n) = .tuple #[.string ⟨#[]⟩, .bool false] := ⟨0, by rw [bad_of HFB.out]; rfl⟩
          have HS := Aside0.mk hS
          clear hS
          go_wp2_with fail
          refine (out_bytes _ _ _ _ _ _ _ _ (by exact hrel.out.fo.1)).mono ?_
          rintro e w6 ⟨rfl, rfl⟩
          rw [HS.out]
          go_wp2
          go_ret
          exact ⟨rfl, HBr.out⟩
        · obtain ⟨S, hS⟩ : ∃ S, S = strOfNums (catI xs n) := ⟨_, rfl⟩
          have hS2 : bytesR (catI xs n) (badI xs n) = .tuple #[.string S, .bool true] := by rw [bad_of HFB.out, hS]; rfl
          have hSb : bytesOf S = catI xs n := by rw [hS]; exact strOf_bytes _ (catI_range _ _)
          have HS := Aside0.mk hS2
          have HSb := Aside0.mk hSb
          clear hS hS2 hSb
          go_wp2_with fail
          refine (out_bytes _ _ _ _ _ _ _ _ (by exact hrel.out.fo.1)).mono ?_
          rintro e w6 ⟨rfl, rfl⟩
          rw [HS.out]
          go_wp2_with fail
          refine (octets_Open.calls S S 0 w _ (by exact HBr.out) rfl).mono ?_
          rintro e w7 ⟨g, rfl, hi7, hb7, _⟩
          have HI7 := Aside0.mk hi7
          have HB7 := Aside0.mk hb7
          clear hi7 hb7
          have HFL := Aside0.mk hrel.out.fl
          clear hrel
          go_wp2_with fail
          go_loopw [12] (fun i wr2 => ∃ u : Nat, u ≤ n ∧ i = .int .i64 u ∧ ∃ s', Aside0 (IsS75 w wr2 g s' 0) ∧ Aside0 (Below w.heap.size w wr2) ∧ Aside0 (bytesOf s' = ((xs.take n).drop u).flatMap itL)) (fun i _ => n - (intOf i).toNat)
          case atStart => exact ⟨0, Nat.zero_le _, rfl, S, HI7, HB7, ⟨HSb.out⟩⟩
          case round =>
            obtain ⟨u, hu, rfl, s', HI5, HB5, HBY⟩ := hrel
            clear HI7 HB7
            by_cases hun : u < n
            · have he1 : (u : Int) < (xs.length : Int) := by omega
              have he2 : (u : Int) < 20 := by omega
              obtain ⟨ad, k0, n0, b0, t0, A4, c4, ns, A5, c5, ts, hA, hx, HC0, HC1, HC2, HC3, HC4, HC5, HC4s, hc4, HC5s, hc5⟩ := C_item HR.out u (by omega)
              subst hA
              have d0 := pw_cell_below HB5.out HC0.out
              have d1 := pw_cell_below HB5.out HC1.out
              have d2 := pw_cell_below HB5.out HC2.out
              have d3 := pw_cell_below HB5.out HC3.out
              have d4 := pw_cell_below HB5.out HC4.out
              have d5 := pw_cell_below HB5.out HC5.out
              have hlg : largeB t0 ns ts = false := by have h := HFL.out u hun (by omega); rwa [hx] at h
              have hbd : itemBad k0 n0 b0 t0 ns ts = false := by have h := badI_false HFB.out u hun (by omega); rwa [hx] at h
              obtain ⟨s2, hf2, hby2⟩ := back_item k0 n0 b0 t0 ns ts hbd hlg s' (((xs.take n).drop (u + 1)).flatMap itL) (by rw [HBY.out, drop_flat xs n u hun (by omega), hx]; rfl)
              have HF2 := Aside0.mk hf2
              have HBY2 := Aside0.mk hby2
              clear hf2 hby2 hbd hlg hx
              go_wp2_with fail
              refine (primerlaw01_back.calls 70000 g s' 0 k0 n0 b0 t0 A4 c4 ns A5 c5 ts true s2 0 w wr HI5.out HB5.out (Kd.C_below HC4s.out HB5.out) hc4 (fun a h1 h2 => by have := int_blk HC4s.out a h1 h2; have := HI5.out.2; omega) (Kd.C_below HC5s.out HB5.out) hc5 (fun a h1 h2 => by have := str_blk HC5s.out a h1 h2; have := HI5.out.2; omega) HF2.out).mono ?_
              rintro e w8 ⟨rfl, hi8, hb8, _⟩
              have HI8 := Aside0.mk hi8
              have HB8 := Aside0.mk hb8
              clear hi8 hb8 d0 d1 d2 d3 d4 d5
              go_wp2_with fail
              go_roundw
              case rel => exact ⟨u + 1, by omega, by go_num, s2, HI8, HB8, HBY2⟩
              case measure => simp [intOf]; omega
            · obtain rfl : n = u := by omega
              have hs0 : s'.size = 0 := by
                have h := HBY.out
                rw [List.drop_of_length_le (by rw [List.length_take]; omega)] at h
                rw [← bytesOf_len, h]; rfl
              have hen : inEnd s' 0 = 0 := by unfold inEnd; rw [if_pos rfl, if_pos hs0]
              have HEN := Aside0.mk hen
              have hcc : wr.cell? ⟨g, 1, none⟩ = some (.int .i64 0) := (blk_cell HI5.out.1 1).trans rfl
              clear hen
              go_wp2_with (first
                | (go_at_call 18; refine (err_quiet g s' 0 _ HI5.out.1).mono ?_; rintro e w' ⟨rfl, rfl⟩)
                | (go_at_call 29; refine (end_quiet g s' 0 _ HI5.out.1).mono ?_; rintro e w' ⟨rfl, rfl⟩; rw [HEN.out]))
              go_ret
              exact ⟨rfl, HB5.out⟩
      · skip
        have hd5 : decide ((n : Int) < (xs.length : Int)) = false := by simp; omega
        have hd6 : decide (n < xs.length) = false := by simp; omega
        clear hd4 hn3
        cases fb
        · obtain ⟨S, hS⟩ : ∃ S, bytesR (catI xs n) (badI xs n) = .tuple #[.string ⟨#[]⟩, .bool false] := ⟨0, by rw [bad_of HFB.out]; rfl⟩
          have HS := Aside0.mk hS
          clear hS
          go_wp2_with fail
          refine (out_bytes _ _ _ _ _ _ _ _ (by exact hrel.out.fo.1)).mono ?_
          rintro e w6 ⟨rfl, rfl⟩
          rw [HS.out]
          go_wp2
          go_ret
          exact ⟨rfl, HBr.out⟩
        · obtain ⟨S, hS⟩ : ∃ S, S = strOfNums (catI xs n) := ⟨_, rfl⟩
          have hS2 : bytesR (catI xs n) (badI xs n) = .tuple #[.string S, .bool true] := by rw [bad_of HFB.out, hS]; rfl
          have hSb : bytesOf S = catI xs n := by rw [hS]; exact strOf_bytes _ (catI_range _ _)
          have HS := Aside0.mk hS2
          have HSb := Aside0.mk hSb
          clear hS hS2 hSb
          go_wp2_with fail
          refine (out_bytes _ _ _ _ _ _ _ _ (by exact hrel.out.fo.1)).mono ?_
          rintro e w6 ⟨rfl, rfl⟩
          rw [HS.out]
          go_wp2_with fail
          refine (octets_Open.calls S S 0 w _ (by exact HBr.out) rfl).mono ?_
          rintro e w7 ⟨g, rfl, hi7, hb7, _⟩
          have HI7 := Aside0.mk hi7
          have HB7 := Aside0.mk hb7
          clear hi7 hb7
          have HFL := Aside0.mk hrel.out.fl
          clear hrel
          go_wp2_with fail
          go_loopw [12] (fun i wr2 => ∃ u : Nat, u ≤ n ∧ i = .int .i64 u ∧ ∃ s', Aside0 (IsS75 w wr2 g s' 0) ∧ Aside0 (Below w.heap.size w wr2) ∧ Aside0 (bytesOf s' = ((xs.take n).drop u).flatMap itL)) (fun i _ => n - (intOf i).toNat)
          case atStart => exact ⟨0, Nat.zero_le _, rfl, S, HI7, HB7, ⟨HSb.out⟩⟩
          case round =>
            obtain ⟨u, hu, rfl, s', HI5, HB5, HBY⟩ := hrel
            clear HI7 HB7
            by_cases hun : u < n
            · have he1 : (u : Int) < (xs.length : Int) := by omega
              have he2 : (u : Int) < 20 := by omega
              obtain ⟨ad, k0, n0, b0, t0, A4, c4, ns, A5, c5, ts, hA, hx, HC0, HC1, HC2, HC3, HC4, HC5, HC4s, hc4, HC5s, hc5⟩ := C_item HR.out u (by omega)
              subst hA
              have d0 := pw_cell_below HB5.out HC0.out
              have d1 := pw_cell_below HB5.out HC1.out
              have d2 := pw_cell_below HB5.out HC2.out
              have d3 := pw_cell_below HB5.out HC3.out
              have d4 := pw_cell_below HB5.out HC4.out
              have d5 := pw_cell_below HB5.out HC5.out
              have hlg : largeB t0 ns ts = false := by have h := HFL.out u hun (by omega); rwa [hx] at h
              have hbd : itemBad k0 n0 b0 t0 ns ts = false := by have h := badI_false HFB.out u hun (by omega); rwa [hx] at h
              obtain ⟨s2, hf2, hby2⟩ := back_item k0 n0 b0 t0 ns ts hbd hlg s' (((xs.take n).drop (u + 1)).flatMap itL) (by rw [HBY.out, drop_flat xs n u hun (by omega), hx]; rfl)
              have HF2 := Aside0.mk hf2
              have HBY2 := Aside0.mk hby2
              clear hf2 hby2 hbd hlg hx
              go_wp2_with fail
              refine (primerlaw01_back.calls 70000 g s' 0 k0 n0 b0 t0 A4 c4 ns A5 c5 ts true s2 0 w wr HI5.out HB5.out (Kd.C_below HC4s.out HB5.out) hc4 (fun a h1 h2 => by have := int_blk HC4s.out a h1 h2; have := HI5.out.2; omega) (Kd.C_below HC5s.out HB5.out) hc5 (fun a h1 h2 => by have := str_blk HC5s.out a h1 h2; have := HI5.out.2; omega) HF2.out).mono ?_
              rintro e w8 ⟨rfl, hi8, hb8, _⟩
              have HI8 := Aside0.mk hi8
              have HB8 := Aside0.mk hb8
              clear hi8 hb8 d0 d1 d2 d3 d4 d5
              go_wp2_with fail
              go_roundw
              case rel => exact ⟨u + 1, by omega, by go_num, s2, HI8, HB8, HBY2⟩
              case measure => simp [intOf]; omega
            · obtain rfl : n = u := by omega
              have hs0 : s'.size = 0 := by
                have h := HBY.out
                rw [List.drop_of_length_le (by rw [List.length_take]; omega)] at h
                rw [← bytesOf_len, h]; rfl
              have hen : inEnd s' 0 = 0 := by unfold inEnd; rw [if_pos rfl, if_pos hs0]
              have HEN := Aside0.mk hen
              have hcc : wr.cell? ⟨g, 1, none⟩ = some (.int .i64 0) := (blk_cell HI5.out.1 1).trans rfl
              clear hen
              go_wp2_with (first
                | (go_at_call 18; refine (err_quiet g s' 0 _ HI5.out.1).mono ?_; rintro e w' ⟨rfl, rfl⟩)
                | (go_at_call 29; refine (end_quiet g s' 0 _ HI5.out.1).mono ?_; rintro e w' ⟨rfl, rfl⟩; rw [HEN.out]))
              go_ret
              exact ⟨rfl, HB5.out⟩
end Go.Proofs.Ytcflcmoblngfbaa.PK
