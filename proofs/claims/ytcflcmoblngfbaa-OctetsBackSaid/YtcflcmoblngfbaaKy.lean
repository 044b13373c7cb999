/- Items written: to no Out, to an Out; what an item's bytes are. Conditions: what an Out holds stays below 2^47 bytes. -/
import Derived.Test.YtcflcmoblngfbaaKv
namespace Go.Proofs.Ytcflcmoblngfbaa.PK
open Go.RowKit Go.Proofs.YtcflcmoblngfbaaW.PrintWords Go.Proofs.YtcflcmoblngfbaaW.PrintLast Go.Proofs.YtcflcmoblngfbaaW.PrintMore
open Go.ChangeShapes Go.WideShapes
set_option linter.unusedVariables false
set_option linter.unusedSimpArgs false
def NilW (w : World) (e : Ending) (w' : World) : Prop := e = .returned (.tuple #[]) ∧ Below w.heap.size w w'
theorem nil_put (s : ByteArray) (ok : Bool) (w : World) : Calls Try.prog 38 #[.pointer none, .string s, .bool ok] w fun e w' => e = .returned (.tuple #[]) ∧ w' = w := by
  go_enter Try.func38, Try.ntmps38
  go_wp2
  refine bodyPost_ret (results_none rfl _ _ _) rfl ?_
  exact ⟨rfl, rfl⟩
theorem nil_int (n : Int) (w : World) : Calls Try.prog 14 #[.pointer none, .int .i64 n] w (NilW w) := by
  obtain ⟨S, hS⟩ : ∃ S, S = strOfNums (putL n) := ⟨_, rfl⟩
  have HS := Aside0.mk hS
  clear hS
  go_enter Try.func14, Try.ntmps14
  go_wp2_with fail
  refine (octets_Put.calls n S _ (by rw [HS.out]; rfl)).mono ?_
  rintro e w1 ⟨rfl, hbl⟩
  have HB := Aside0.mk hbl
  clear hbl
  go_wp2_with fail
  refine (nil_put _ _ _).mono ?_
  rintro e w2 ⟨rfl, rfl⟩
  go_wp2_with fail
  go_end0
  exact ⟨rfl, HB.out⟩
theorem nil_count (n : Int) (w : World) : Calls Try.prog 45 #[.pointer none, .int .i64 n] w (NilW w) := by
  obtain ⟨S, hS⟩ : ∃ S, S = strOfNums (putL n) := ⟨_, rfl⟩
  have HS := Aside0.mk hS
  clear hS
  go_enter Try.func45, Try.ntmps45
  go_wp2_with fail
  refine (octets_Put.calls n S _ (by rw [HS.out]; rfl)).mono ?_
  rintro e w1 ⟨rfl, hbl⟩
  have HB := Aside0.mk hbl
  clear hbl
  go_wp2_with fail
  refine (nil_put _ _ _).mono ?_
  rintro e w2 ⟨rfl, rfl⟩
  go_wp2_with fail
  go_end0
  exact ⟨rfl, HB.out⟩
theorem nil_bool (v : Bool) (w : World) : Calls Try.prog 43 #[.pointer none, .bool v] w (NilW w) := by
  cases v
  all_goals
    go_enter Try.func43, Try.ntmps43
    go_wp2_with fail
    refine (nil_put _ _ _).mono ?_
    rintro e w2 ⟨rfl, rfl⟩
    go_wp2_with fail
    go_end0
    exact ⟨rfl, Below.refl _ _⟩
theorem nil_text (s : ByteArray) (w : World) : Calls Try.prog 32 #[.pointer none, .string s] w (NilW w) := by
  by_cases hs : 65536 < s.size
  · have hs' : decide ((65536 : Int) < (s.size : Int)) = true := by simp; omega
    go_enter Try.func32, Try.ntmps32
    go_wp2_with fail
    refine (nil_put _ _ _).mono ?_
    rintro e w2 ⟨rfl, rfl⟩
    go_wp2_with fail
    refine bodyPost_ret (results_none rfl _ _ _) rfl ?_
    exact ⟨rfl, Below.refl _ _⟩
  · have hs' : decide ((65536 : Int) < (s.size : Int)) = false := by simp; omega
    obtain ⟨S, hS⟩ : ∃ S, S = strOfNums (putL s.size) := ⟨_, rfl⟩
    have HS := Aside0.mk hS
    clear hS
    go_enter Try.func32, Try.ntmps32
    go_wp2_with fail
    refine (octets_Put.calls s.size S _ (by rw [HS.out]; rfl)).mono ?_
    rintro e w1 ⟨rfl, hbl⟩
    have HB := Aside0.mk hbl
    clear hbl
    go_wp2_with fail
    refine (nil_put _ _ _).mono ?_
    rintro e w2 ⟨rfl, rfl⟩
    go_wp2_with fail
    refine (nil_put _ _ _).mono ?_
    rintro e w2 ⟨rfl, rfl⟩
    go_wp2_with fail
    go_end0
    exact ⟨rfl, HB.out⟩
theorem nil_bytes (w : World) : Calls Try.prog 15 #[.pointer none] w fun e w' => e = .returned (.tuple #[.string ⟨#[]⟩, .bool false]) ∧ w' = w := by
  go_enter Try.func15, Try.ntmps15
  go_wp2
  go_ret2
  exact ⟨rfl, rfl⟩
/-- No Out takes all. -/
theorem takes_nil (w0 : World) : Takes (.pointer none) (fun _ => True) (fun w' _ _ => Below w0.heap.size w0 w') where
  int w l bad n h _ := (nil_int n w).mono fun e w' ⟨he, hb⟩ => ⟨he, below_then h h.size hb⟩
  count w l bad n h _ := (nil_count n w).mono fun e w' ⟨he, hb⟩ => ⟨he, below_then h h.size hb⟩
  bool w l bad v h _ := (nil_bool v w).mono fun e w' ⟨he, hb⟩ => ⟨he, below_then h h.size hb⟩
  text w l bad s h _ := (nil_text s w).mono fun e w' ⟨he, hb⟩ => ⟨he, below_then h h.size hb⟩
/-- An Out, from a world on. -/
def OutI (w0 : World) (b o : Nat) (T : TypeId) (cs : Array Value) (base : Nat) (w' : World) (l : List Int) (bad : Bool) : Prop := OutB w' b o T cs base l bad ∧ OutK w0 w' b base ∧ base ≤ w'.heap.size
theorem takes_out (w0 : World) (b o : Nat) (T : TypeId) (cs : Array Value) (base : Nat) : Takes (.pointer (some ⟨b, o, none⟩)) (fun n => n ≤ 140737488355328) (OutI w0 b o T cs base) where
  int w l bad n h hl := (out_int b o T cs base l bad w h.1 h.2.2 n hl).mono fun e w' ⟨he, hb, hk⟩ => ⟨he, hb, h.2.1.trans hk, Nat.le_trans h.2.2 hk.size⟩
  count w l bad n h hl := (out_count b o T cs base l bad w h.1 h.2.2 n hl).mono fun e w' ⟨he, hb, hk⟩ => ⟨he, hb, h.2.1.trans hk, Nat.le_trans h.2.2 hk.size⟩
  bool w l bad n h hl := (out_bool b o T cs base l bad w h.1 h.2.2 n hl).mono fun e w' ⟨he, hb, hk⟩ => ⟨he, hb, h.2.1.trans hk, Nat.le_trans h.2.2 hk.size⟩
  text w l bad n h hl := (out_text b o T cs base l bad w h.1 h.2.2 n hl).mono fun e w' ⟨he, hb, hk⟩ => ⟨he, hb, h.2.1.trans hk, Nat.le_trans h.2.2 hk.size⟩
/-- An item's kind, its bytes, whether it is bad. -/
def kindN (n : Int) : Int := Int.tmod (Int.tmod n 5 + 5) 5
def itemL (k n : Int) (b : Bool) (t : ByteArray) (ns : List Int) (ts : List ByteArray) : List Int :=
  if kindN k = 0 then putL n else if kindN k = 1 then [if b then 1 else 0] else if kindN k = 2 then textL t else if kindN k = 3 then intsL ns else textsL ts
def itemBad (k n : Int) (b : Bool) (t : ByteArray) (ns : List Int) (ts : List ByteArray) : Bool :=
  if kindN k = 0 then !fitsN n else if kindN k = 1 then false else if kindN k = 2 then decide (65536 < t.size) else if kindN k = 3 then badInts ns else badTexts ts
theorem kind_f (a0 a1 : Int) (a2 : Bool) (a3 : ByteArray) (l4 : List Int) (l5 : List ByteArray) : primerlaw01_kind.f a0 a1 a2 a3 l4 l5 = some (kindN a0) := by
  unfold primerlaw01_kind.f kindN
  have h1 := Int.lt_tmod_of_pos a0 (show (0 : Int) < 5 by omega)
  have h2 := Int.tmod_lt_of_pos a0 (show (0 : Int) < 5 by omega)
  rw [w64 _ (by omega) (by omega)]
def itemV (k n : Int) (b : Bool) (t : ByteArray) (A4 : Option Addr) (n4 c4 : Nat) (A5 : Option Addr) (n5 c5 : Nat) : Value :=
  .agg #[.int .i64 k, .int .i64 n, .bool b, .string t, .slice A4 n4 c4, .slice A5 n5 c5]
theorem ok_texts {ok : Nat → Prop} {L N T : Nat} (h : ∀ m, m ≤ L + (65544 * T + 8 * N + 70000) → ok m) : ∀ m, m ≤ L + (65544 * T + 70000) → ok m := by
  intro m hm
  generalize 65544 * T = X at h hm
  generalize 70000 = Y at h hm
  exact h m (by omega)
theorem ok_ints {ok : Nat → Prop} {L N T : Nat} (h : ∀ m, m ≤ L + (65544 * T + 8 * N + 70000) → ok m) : ∀ m, m ≤ L + (8 * N + 16) → ok m := fun m hm => h m (by omega)
set_option maxHeartbeats 1600000 in
set_option maxRecDepth 100000 in
theorem write_calls {a : Option Addr} {ok : Nat → Prop} {I : World → List Int → Bool → Prop} (HT : Takes (.pointer a) ok I) (hg : ∀ w w1 l bad, I w l bad → Below w.heap.size w w1 → I w1 l bad)
    (k n : Int) (b : Bool) (t : ByteArray) (A4 : Option Addr) (c4 : Nat) (ns : List Int) (A5 : Option Addr) (c5 : Nat) (ts : List ByteArray) (l : List Int) (bad : Bool) (w : World) (hI : I w l bad)
    (hR4 : ∀ w' l' bad', I w' l' bad' → Kd.C (Kd.int .i64) w' A4 ns.length ns) (hc4 : ns.length ≤ c4) (hR5 : ∀ w' l' bad', I w' l' bad' → Kd.C Kd.string w' A5 ts.length ts) (hc5 : ts.length ≤ c5)
    (hok : ∀ m, m ≤ l.length + (65544 * ts.length + 8 * ns.length + 70000) → ok m) :
    Calls Try.prog 31 #[.pointer a, .agg #[.int .i64 k, .int .i64 n, .bool b, .string t, .slice A4 ns.length c4, .slice A5 ts.length c5]] w fun e w' => e = .returned (.tuple #[]) ∧ I w' (l ++ itemL k n b t ns ts) (bad || itemBad k n b t ns ts) := by
  have hu := Try.underlying60
  have H0 := Aside0.mk hI
  have HR4 := Aside0.mk hR4
  have HR5 := Aside0.mk hR5
  have HOK := Aside0.mk hok
  have HG := Aside0.mk hg
  clear hI hR4 hR5 hok hg
  have hk5 : 0 ≤ kindN k ∧ kindN k ≤ 4 := mod5 k
  obtain ⟨q, hq⟩ : ∃ q, q = kindN k := ⟨_, rfl⟩
  rw [← hq] at hk5
  have HQ := Aside0.mk hq
  clear hq
  go_enter Try.func31, Try.ntmps31
  go_wp2_with fail
  have hnew := heap_alloc_new w (.cells #[.int .i64 k, .int .i64 n, .bool b, .string t, .slice A4 ns.length c4, .slice A5 ts.length c5] 60)
  have HB1 := Aside0.mk (below_alloc (Below.refl w.heap.size w) (.cells #[.int .i64 k, .int .i64 n, .bool b, .string t, .slice A4 ns.length c4, .slice A5 ts.length c5] 60))
  obtain ⟨w1, hw1⟩ : ∃ w1, w1 = w.alloc (.cells #[.int .i64 k, .int .i64 n, .bool b, .string t, .slice A4 ns.length c4, .slice A5 ts.length c5] 60) := ⟨_, rfl⟩
  rw [← hw1] at hnew HB1
  simp only [← hw1]
  have HI1 := Aside0.mk (HG.out _ _ _ _ H0.out HB1.out)
  obtain ⟨gb, hgb⟩ : ∃ gb, gb = w.heap.size := ⟨_, rfl⟩
  rw [← hgb] at hnew
  simp only [← hgb]
  have hcz0 : w1.cell? ⟨gb, 0, none⟩ = some (.int .i64 k) := (blk_cell hnew 0).trans rfl
  have hcz1 : w1.cell? ⟨gb, 1, none⟩ = some (.int .i64 n) := (blk_cell hnew 1).trans rfl
  have hcz2 : w1.cell? ⟨gb, 2, none⟩ = some (.bool b) := (blk_cell hnew 2).trans rfl
  have hcz3 : w1.cell? ⟨gb, 3, none⟩ = some (.string t) := (blk_cell hnew 3).trans rfl
  have hcz4 : w1.cell? ⟨gb, 4, none⟩ = some (.slice A4 ns.length c4) := (blk_cell hnew 4).trans rfl
  have hcz5 : w1.cell? ⟨gb, 5, none⟩ = some (.slice A5 ts.length c5) := (blk_cell hnew 5).trans rfl
  clear hnew hw1 hgb
  refine (primerlaw01_kind.calls k n b t A4 c4 ns A5 c5 ts q w1 (HR4.out _ _ _ HI1.out) hc4 (HR5.out _ _ _ HI1.out) hc5 (by rw [kind_f, HQ.out])).mono ?_
  rintro e w2 ⟨rfl, hb2⟩
  have HI2 := Aside0.mk (HG.out _ _ _ _ HI1.out hb2)
  have hd0 := pw_cell_below hb2 hcz0
  have hd1 := pw_cell_below hb2 hcz1
  have hd2 := pw_cell_below hb2 hcz2
  have hd3 := pw_cell_below hb2 hcz3
  have hd4 := pw_cell_below hb2 hcz4
  have hd5 := pw_cell_below hb2 hcz5
  clear hb2 hcz0 hcz1 hcz2 hcz3 hcz4 hcz5
  by_cases q0 : q = 0
  · subst q0
    go_wp2_with fail
    refine (HT.int w2 l bad n HI2.out (HOK.out _ (by omega))).mono ?_
    rintro e w3 ⟨rfl, hI3⟩
    have HI3 := Aside0.mk hI3
    clear hI3
    go_wp2_with fail
    go_end0
    refine ⟨rfl, ?_⟩
    have e := HQ.out.symm
    have h := HI3.out
    simp [itemL, itemBad, e]
    simpa using h
  have q0' : (q == 0) = false := by rw [beq_eq_false_iff_ne]; exact q0
  by_cases q1 : q = 1
  · subst q1
    go_wp2_with fail
    refine (HT.bool w2 l bad b HI2.out (HOK.out _ (by omega))).mono ?_
    rintro e w3 ⟨rfl, hI3⟩
    have HI3 := Aside0.mk hI3
    clear hI3
    go_wp2_with fail
    go_end0
    refine ⟨rfl, ?_⟩
    have e := HQ.out.symm
    have h := HI3.out
    simp [itemL, itemBad, e]
    simpa using h
  have q1' : (q == 1) = false := by rw [beq_eq_false_iff_ne]; exact q1
  by_cases q2 : q = 2
  · subst q2
    go_wp2_with fail
    refine (HT.text w2 l bad t HI2.out (HOK.out _ (by omega))).mono ?_
    rintro e w3 ⟨rfl, hI3⟩
    have HI3 := Aside0.mk hI3
    clear hI3
    go_wp2_with fail
    go_end0
    refine ⟨rfl, ?_⟩
    have e := HQ.out.symm
    have h := HI3.out
    simp [itemL, itemBad, e]
    simpa using h
  have q2' : (q == 2) = false := by rw [beq_eq_false_iff_ne]; exact q2
  by_cases q3 : q = 3
  · subst q3
    go_wp2_with fail
    refine (out_ints HT A4 c4 ns l bad w2 HI2.out HR4.out (ok_ints HOK.out) ⟨_, rfl⟩).mono ?_
    rintro e w3 ⟨rfl, hI3⟩
    have HI3 := Aside0.mk hI3
    clear hI3
    go_wp2_with fail
    go_end0
    refine ⟨rfl, ?_⟩
    have e := HQ.out.symm
    have h := HI3.out
    simp [itemL, itemBad, e]
    simpa using h
  have q3' : (q == 3) = false := by rw [beq_eq_false_iff_ne]; exact q3
  obtain rfl : q = 4 := by omega
  go_wp2_with fail
  refine (out_texts HT A5 c5 ts l bad w2 HI2.out HR5.out (ok_texts HOK.out) ⟨_, rfl⟩).mono ?_
  rintro e w3 ⟨rfl, hI3⟩
  have HI3 := Aside0.mk hI3
  clear hI3
  go_wp2_with fail
  go_end0
  refine ⟨rfl, ?_⟩
  have e := HQ.out.symm
  have h := HI3.out
  simp [itemL, itemBad, e]
  simpa using h
end Go.Proofs.Ytcflcmoblngfbaa.PK
