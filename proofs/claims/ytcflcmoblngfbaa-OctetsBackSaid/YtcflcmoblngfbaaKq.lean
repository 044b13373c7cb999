/- octets.Put by hand: the Go code makes the bytes that putL tells. Condition: none. -/
import Derived.Test.YtcflcmoblngfbaaKp
namespace Go.Proofs.Ytcflcmoblngfbaa.PK
open Go.RowKit Go.Proofs.YtcflcmoblngfbaaW.PrintWords Go.Proofs.YtcflcmoblngfbaaW.PrintLast Go.Proofs.YtcflcmoblngfbaaW.PrintMore
set_option linter.unusedVariables false
set_option linter.unusedSimpArgs false
theorem info5q : (Try.prog.info? 5).map (fun i => (i.zero, i.size, i.bytes)) = some (some (.int .u8 0), 1, 1) := by kernel_rfl

theorem or_u8 (K : Nat) (h : K ≤ 7) : Go.bits .or .u8 0 (K : Int) = (K : Int) ∧ Go.bits .or .u8 128 (K : Int) = 128 + (K : Int) := by
  have h8 : ∀ x : Fin 8, Go.bits .or .u8 0 ((x.val : Nat) : Int) = ((x.val : Nat) : Int) ∧ Go.bits .or .u8 128 ((x.val : Nat) : Int) = 128 + ((x.val : Nat) : Int) := by decide +kernel
  exact h8 ⟨K, by omega⟩
theorem beL_step (j : Nat) (m : Int) (L full : List Int) (h : L ++ beL (j + 1) m = full) : (L ++ [(m / 256 ^ j) % 256]) ++ beL j m = full := by
  rw [← h]; simp [beL]
theorem shift_is (m i : Int) (h0 : 0 ≤ i) : m / 2 ^ (8 * i).toNat = m / 256 ^ i.toNat := by
  obtain ⟨j, rfl⟩ := Int.eq_ofNat_of_zero_le h0
  have : (8 * (j : Int)).toNat = 8 * j := by omega
  rw [this, Int.toNat_natCast, Int.pow_mul]
  rfl
/-- What the loop of Put carries. -/
def PutRel (w : World) (m : Int) (K : Nat) (full : List Int) (v : Value) (i : Int) (wr : World) : Prop :=
  ∃ L : List Int, L ++ beL (i + 1).toNat m = full ∧ wr.ownsRow w.heap.size 5 1 v L.length (nums .u8 L) ∧ Below w.heap.size w wr ∧ L.length ≤ 8
set_option maxHeartbeats 1600000 in
/-- The walk at a number that has bytes. -/
theorem put_core (a0 m sg : Int) (w : World) (h0 : 0 ≤ m) (h1 : m ≤ 9007199254740992) (hc : (m = a0 ∧ sg = 0) ∨ (a0 = -m ∧ sg = 128 ∧ 0 < m)) :
    Calls Try.prog 10 #[.int .i64 a0] w fun e w' => e = .returned (.string (strOfNums ((sg + (nb m : Int)) :: beL (nb m) m))) ∧ Below w.heap.size w w' := by
  obtain ⟨r, hr, hr0, hr1, hrk⟩ := len_some m h0 h1
  have HR := Aside0.mk hr
  clear hr
  have hk7 := nb_le m
  obtain ⟨K, hK⟩ : ∃ K, K = nb m := ⟨_, rfl⟩
  rw [← hK] at hrk hk7 ⊢
  clear hK
  obtain ⟨hor0, hor1⟩ := or_u8 K hk7
  obtain ⟨i0, hi, hz0, hz1, hz2⟩ := info_parts info5q
  rcases hc with ⟨rfl, rfl⟩ | ⟨rfl, rfl, hpos⟩
  all_goals
    go_enter Try.func10, Try.ntmps10
    go_wp2_with (first
      | (go_at_call 37; refine (PB.bits_Len.calls m r _ HR.out).mono ?_; rintro e w' ⟨rfl, ⟨nd, rfl⟩⟩)
      | (at_make; refine wpList_make_own _ rfl _ _ 32 rfl w.heap.size 5 i0 (.int .u8 0) 1 Try.underlying32 hi hz0 hz1 .i64 .i64 _ (K + 1) rfl rfl (by omega) (by rw [hz2]; omega) (by unfold maxLen; omega) (by simp) ?_; intro w1 hown hg; have HB1 := Aside0.mk ((pw_below_drewN (Below.refl w.heap.size w) nd).grown hg (Nat.le_refl _) (fun _ h => by cases h)); have HO1 := Aside0.mk hown; clear hown hg)
      | (at_builtin; refine print_append_num (w0 := w) w.heap.size rfl (.tmp 25) (.tmp 30) 32 5 .u8 1 rfl Try.underlying32 info5q (by decide) _ [] _ rfl rfl HO1.out HB1.out HB1.out.size (by simp) ?_; intro v2 w2 ho2 hb2 _ _; have HB2 := Aside0.mk hb2; have HO2 := Aside0.mk ho2; clear ho2 hb2))
    go_loopw [5, 6] (fun v i wr => ∃ i' : Int, -1 ≤ i' ∧ i' < K ∧ i = .int .i64 i' ∧ Aside0 (PutRel w m K _ v i' wr)) (fun _ i _ => (intOf i + 1).toNat)
    case atStart => exact ⟨(K : Int) - 1, by omega, by omega, rfl, ⟨⟨_, by rw [show ((K : Int) - 1 + 1).toNat = K from by omega], HO2.out, HB2.out, by simp⟩⟩⟩
    case round =>
      obtain ⟨i', hi0, hiK, rfl, hrel⟩ := hrel
      by_cases hlt : 0 ≤ i'
      · obtain ⟨L, hL, hown, hbel, hlen⟩ := hrel.out
        have HO := Aside0.mk hown
        have HB := Aside0.mk hbel
        have HL := Aside0.mk hL
        have HN := Aside0.mk hlen
        clear hown hbel hL hrel hlen
        obtain ⟨D, hD⟩ : ∃ D, D = m / 256 ^ i'.toNat := ⟨_, rfl⟩
        have hsh : m / 2 ^ (8 * i').toNat = D := by rw [hD]; exact shift_is m i' hlt
        have HD := Aside0.mk hD
        clear hD
        go_wp2_with (first
          | (at_builtin; refine print_append_num (w0 := w) w.heap.size rfl (.tmp 38) (.tmp 44) 32 5 .u8 1 rfl Try.underlying32 info5q (by decide) _ L _ rfl rfl HO.out HB.out HB.out.size (by have := HN.out; omega) ?_; intro v3 w3 ho3 hb3 _ _; have HB3 := Aside0.mk hb3; have HO3 := Aside0.mk ho3; clear ho3 hb3))
        go_roundw
        case rel => exact ⟨i' - 1, by omega, by omega, by go_num, ⟨⟨L ++ [D % 256], by rw [HD.out]; have e := HL.out; rw [show (i' + 1).toNat = i'.toNat + 1 from by omega] at e; rw [show (i' - 1 + 1).toNat = i'.toNat from by omega]; exact beL_step _ _ _ _ e, HO3.out, HB3.out, by have e := congrArg List.length HL.out; simp [beL_length] at e; simp; omega⟩⟩⟩
        case measure => simp [intOf]; omega
      · obtain ⟨L, hL, hown, hbel, hlen⟩ := hrel.out
        rw [show (i' + 1).toNat = 0 from by omega] at hL
        simp only [beL, List.append_nil] at hL
        have hcv := own_string (P := Try.prog) Try.underlying32 Try.underlying5 Try.underlying9 hown
        have HB := Aside0.mk hbel
        have HL := Aside0.mk hL
        clear hown hbel hL hrel hlen
        go_wp2
        go_ret
        exact ⟨by rw [HL.out]; first | rfl | simp, HB.out⟩
set_option maxHeartbeats 800000 in
theorem octets_Put.calls (a0 : Int) (r : ByteArray) (w : World) (h : octets_Put.f a0 = some r) :
    Calls Try.prog 10 #[.int .i64 a0] w fun e w' => e = .returned (.string r) ∧ Below w.heap.size w w' := by
  have e : strOfNums (putL a0) = r := Option.some.inj h
  subst e
  clear h
  by_cases hb : a0 < -9007199254740992 ∨ 9007199254740992 < a0
  · have e : strOfNums (putL a0) = ⟨#[]⟩ := by unfold putL; rw [if_pos hb]; rfl
    rw [e]
    clear e
    rcases hb with hb | hb
    all_goals
      go_enter Try.func10, Try.ntmps10
      go_wp2
      go_ret
      exact ⟨rfl, Below.refl _ _⟩
  · by_cases hn : a0 < 0
    · have := put_core a0 (-a0) 128 w (by omega) (by omega) (.inr ⟨by omega, rfl, by omega⟩)
      have e : putL a0 = (128 + (nb (-a0) : Int)) :: beL (nb (-a0)) (-a0) := by unfold putL; rw [if_neg hb, if_pos hn]
      rw [e]
      exact this
    · have := put_core a0 a0 0 w (by omega) (by omega) (.inl ⟨rfl, rfl⟩)
      have e : putL a0 = (0 + (nb a0 : Int)) :: beL (nb a0) a0 := by unfold putL; rw [if_neg hb, if_neg hn]; simp
      rw [e]
      exact this
end Go.Proofs.Ytcflcmoblngfbaa.PK
