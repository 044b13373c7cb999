/- How a law's arguments are read, kind by kind: from the row's reading to what the walks ask. Condition: none.
Small contracts and words for the walks of the laws: Err, End; an element that is read; what stays where something else is written. Condition: none.
Lists written to an Out: its two loops, for any holder that takes numbers and texts. Conditions: none, but what the holder asks.
Items written: to no Out, to an Out; what an item's bytes are. Conditions: what an Out holds stays below 2^47 bytes.
What is written is read again, in plain words: item by item. Condition: the item is neither bad nor too large to be played.
Openers for structs: from the row's reading of a struct to what its fields' cells say. Condition: none. -/
import Derived.Test.YtnajmemcdipknaaWWords
import Derived.Test.YtnajmemcdipknaaWMore
import Derived.ProofKit
import Derived.OpenShut
import Derived.Deep.Slices
import Derived.SizedLaws
import Derived.DataShut
import Derived.Test.YtnajmemcdipknaaHf
import Derived.Test.YtnajmemcdipknaaHc
import Derived.Test.YtnajmemcdipknaaHd
import Derived.Test.YtnajmemcdipknaaHe
import Derived.Test.YtnajmemcdipknaaProg
namespace Go.Proofs.Ytnajmemcdipknaa.PK
open Go.RowKit Go.Proofs.YtnajmemcdipknaaW.PrintWords Go.Proofs.YtnajmemcdipknaaW.PrintLast Go.Proofs.YtnajmemcdipknaaW.PrintMore
open Go.ChangeShapes Go.WideShapes
set_option linter.unusedVariables false
set_option linter.unusedSimpArgs false
set_option maxRecDepth 100000
/-- Whatever reads as a datum of this type has cells that say a value of this kind. -/
def Opens {α : Type} (P : Program) (W : World) (T : TypeId) (d : Kd α) (wf : α → Prop) : Prop :=
  ∀ (H : Type) (enc : TypeId × Value → H) (base : Nat) (spare : Nat → Bool) (held : Bool) (fuel : Nat) (cs : List Value) (x : DataW H × List MemPlace), DataW.trod enc P W base spare held fuel T cs = some x → ∃ y, d.K W y cs ∧ wf y
theorem opens_int {P : Program} {W : World} {T : TypeId} {k : IntKind} (ht : P.underlying T = some (.int k)) : Opens P W T (Kd.int k) (fun n => (Lit.int k n).wf = true) := by
  intro H enc base spare held fuel cs x h
  obtain ⟨n, rfl, _, hw⟩ := DataW.trod_int ht h
  exact ⟨n, rfl, hw⟩
theorem opens_bool {P : Program} {W : World} {T : TypeId} (ht : P.underlying T = some .bool) : Opens P W T Kd.bool (fun _ => True) := by
  intro H enc base spare held fuel cs x h
  obtain ⟨n, rfl, _⟩ := DataW.trod_bool ht h
  exact ⟨n, rfl, trivial⟩
theorem opens_string {P : Program} {W : World} {T : TypeId} (ht : P.underlying T = some .string) : Opens P W T Kd.string (fun s => s.size ≤ 9223372036854775807) := by
  intro H enc base spare held fuel cs x h
  obtain ⟨s, rfl, _, hs⟩ := DataW.trod_string ht h
  exact ⟨s, rfl, by unfold maxLen at hs; exact hs⟩
theorem list_of {α : Type} {n : Nat} {p : Nat → α → Prop} (h : ∀ i, i < n → ∃ y, p i y) : ∃ xs : List α, xs.length = n ∧ ∀ i y, xs[i]? = some y → p i y := by
  induction n with
  | zero => exact ⟨[], rfl, fun i y hy => by simp at hy⟩
  | succ n ih =>
    obtain ⟨xs, hl, hx⟩ := ih (fun i hi => h i (by omega))
    obtain ⟨y, hy⟩ := h n (by omega)
    refine ⟨xs ++ [y], by simp [hl], fun i z hz => ?_⟩
    rcases Nat.lt_or_ge i n with hi | hi
    · rw [List.getElem?_append_left (by omega)] at hz
      exact hx i z hz
    · rw [List.getElem?_append_right (by omega)] at hz
      have : i = n := by
        have := (List.getElem?_eq_some_iff.1 hz).1
        simp at this
        omega
      subst this
      simp [hl] at hz
      subst hz
      exact hy
theorem opens_slice {α : Type} {P : Program} {W : World} {T e : TypeId} {d : Kd α} {wf : α → Prop} (ht : P.underlying T = some (.slice e)) (hc : P.cellsOf e = d.sz) (ho : Opens P W e d wf) :
    Opens P W T (Kd.slice e d) (fun xs => xs.length ≤ 9223372036854775807 ∧ ∀ x ∈ xs, wf x) := by
  intro H enc base spare held fuel cs x h
  rcases Deep.open_slice ht h with ⟨rfl, _⟩ | ⟨a, len, cap, m, n, D, Pl, rfl, hb, hl, hm, hmm, _, hel⟩
  · exact ⟨[], ⟨none, 0, rfl, Nat.zero_le _, rfl, by simp, fun h => absurd h (by simp)⟩, by simp, fun x hx => by simp at hx⟩
  · unfold maxLen at hm
    have hlm : len ≤ m := by rw [hmm]; split <;> omega
    obtain ⟨xs, hxl, hxs⟩ := list_of (n := len) (p := fun i y => wf y ∧ ∃ c : List Value, c.length = d.sz ∧ d.K W y c ∧ ∀ j u, c[j]? = some u → W.cell? (a.add (i * d.sz + j)) = some u) (fun i hi => by
      obtain ⟨c, h1, h2⟩ := hel i (by omega)
      obtain ⟨y, hy, hw⟩ := ho H enc base spare held n c _ h2
      obtain ⟨_, hcl, hcc⟩ := World.cells?_some h1
      refine ⟨y, hw, c, by rw [hcl, hc], hy, fun j u hu => ?_⟩
      have hj : j < P.cellsOf e := by
        have := (List.getElem?_eq_some_iff.1 hu).1
        omega
      have := hcc j hj
      rw [Deep.add_add, hc, hu] at this
      exact this)
    refine ⟨xs, ⟨some a, cap, by rw [hxl], by omega, rfl, by omega, fun _ => ⟨a, rfl, fun j p hp => ?_⟩⟩, by omega, fun x hx => ?_⟩
    · obtain ⟨_, c, h1, h2, h3⟩ := hxs j p hp
      exact ⟨c, h1, h2, h3⟩
    · obtain ⟨i, hi, rfl⟩ := List.getElem_of_mem hx
      exact (hxs i _ (List.getElem?_eq_getElem hi)).1
/-- An array of numbers: its numbers. -/
def kArr (k : IntKind) (n : Nat) : Kd (List Int) where
  sz := n
  E := []
  K := fun _ x cs => x.length = n ∧ cs = nums k x
  M := fun _ _ _ x cs => x.length = n ∧ cs = nums k x
  K_len := fun h => by rw [h.2, nums_length, h.1]
  K_one := fun h u hu => by
    rw [h.2] at hu
    simp only [nums, List.mem_map] at hu
    obtain ⟨q, _, rfl⟩ := hu
    rfl
  K_below := fun _ h => h
  K_of_M := fun h => h
  M_mono := fun _ h => h
  M_bound := fun h => h
  M_move := fun _ h => h
  M_lower := fun _ h => h
theorem opens_arr {P : Program} {W : World} {T e : TypeId} {k : IntKind} {n : Nat} (ht : P.underlying T = some (.array n e)) (he : P.underlying e = some (.int k)) (hc : P.cellsOf e = 1) (hT : P.cellsOf T = n) :
    Opens P W T (kArr k n) (fun xs => ∀ x ∈ xs, (Lit.int k x).wf = true) := by
  intro H enc base spare held fuel cs x h
  obtain ⟨xs, m, _, _, hl, hxl, hel⟩ := DataW.trod_array ht h
  obtain ⟨ys, hyl, hys⟩ := list_of (n := n) (p := fun i y => (Lit.int k y).wf = true ∧ cs[i]? = some (.int k y)) (fun i hi => by
    have h1 := hel i hi
    have hlt : i < xs.length := by omega
    rw [List.getElem?_eq_getElem hlt] at h1
    obtain ⟨y, h2, _, hw⟩ := DataW.trod_int he h1
    refine ⟨y, hw, ?_⟩
    rw [hc, Nat.mul_one] at h2
    have := congrArg (fun l => l[0]?) h2
    simp only [List.getElem?_take, List.getElem?_drop] at this
    simpa using this)
  refine ⟨ys, ⟨hyl, ?_⟩, fun y hy => ?_⟩
  · apply List.ext_getElem?
    intro i
    rcases Nat.lt_or_ge i n with hi | hi
    · have hyi : i < ys.length := by omega
      rw [(hys i _ (List.getElem?_eq_getElem hyi)).2]
      simp [nums, List.getElem?_eq_getElem hyi]
    · rw [List.getElem?_eq_none (by omega), List.getElem?_eq_none (by simp [nums]; omega)]
  · obtain ⟨i, hi, rfl⟩ := List.getElem_of_mem hy
    exact (hys i _ (List.getElem?_eq_getElem hi)).1
/-- A kind that says the same of another value. -/
theorem opens_map {α β : Type} {P : Program} {W : World} {T : TypeId} {d : Kd α} {d' : Kd β} {wf : α → Prop} {wf' : β → Prop} (h : Opens P W T d wf) (f : α → β) (hK : ∀ y cs, d.K W y cs → wf y → d'.K W (f y) cs ∧ wf' (f y)) : Opens P W T d' wf' := by
  intro H enc base spare held fuel cs x hx
  obtain ⟨y, hy, hw⟩ := h H enc base spare held fuel cs x hx
  exact ⟨f y, hK y cs hy hw⟩
/-- A slice argument, opened. -/
theorem arg_slice {α : Type} {H : Type} {enc : TypeId × Value → H} {P : Program} {W : World} {T e : TypeId} {d : Kd α} {wf : α → Prop} {base : Nat} {spare : Nat → Bool} {held : Bool} {a : Option Addr} {len cap : Nat} {dt : DataW H} {ps : List MemPlace}
    (ht : P.underlying T = some (.slice e)) (hc : P.cellsOf e = d.sz) (ho : Opens P W e d wf) (h : DataW.Trod enc P W base spare held T (.slice a len cap) dt ps) :
    ∃ xs : List α, len = xs.length ∧ xs.length ≤ cap ∧ d.C W a xs.length xs ∧ ∀ x ∈ xs, wf x := by
  obtain ⟨fuel, hf⟩ := h
  obtain ⟨xs, ⟨A, c, h1, h2, h3⟩, _, h4⟩ := opens_slice ht hc ho H enc base spare held fuel _ _ hf
  have h1' : Value.slice a len cap = .slice A xs.length c := by
    simp [Value.cells] at h1
    obtain ⟨rfl, rfl, rfl⟩ := h1
    rfl
  injection h1' with e1 e2 e3
  subst e1
  subst e3
  exact ⟨xs, e2, h2, h3, h4⟩
theorem i64_wf {n : Int} (h : (Lit.int .i64 n).wf = true) : -9223372036854775808 ≤ n ∧ n ≤ 9223372036854775807 := by
  have := (Lit.wf_int_iff .i64 n).mp h
  simpa [IntKind.min, IntKind.max, IntKind.signed, IntKind.bits] using this
theorem opens_any {α : Type} {P : Program} {W : World} {T : TypeId} {d : Kd α} {wf : α → Prop} (h : Opens P W T d wf) : Opens P W T d (fun _ => True) := fun H enc base spare held fuel cs x hx => by
  obtain ⟨y, hy, _⟩ := h H enc base spare held fuel cs x hx
  exact ⟨y, hy, trivial⟩
end Go.Proofs.Ytnajmemcdipknaa.PK
namespace Go.Proofs.Ytnajmemcdipknaa.PK
open Go.RowKit Go.Proofs.YtnajmemcdipknaaW.PrintWords Go.Proofs.YtnajmemcdipknaaW.PrintLast Go.Proofs.YtnajmemcdipknaaW.PrintMore
set_option linter.unusedVariables false
set_option linter.unusedSimpArgs false
set_option maxRecDepth 100000
theorem info3q : (Try.prog.info? 3).map (fun i => (i.zero, i.size, i.bytes)) = some (some (.int .i64 0), 1, 8) := by kernel_rfl
theorem block_of_add (a : Addr) (n : Nat) : (a.add n).block = a.block := by unfold Addr.add; split <;> rfl
theorem add_of_add (a : Addr) (i j : Nat) : (a.add i).add j = a.add (i + j) := by
  unfold Addr.add
  by_cases hi : i = 0 <;> by_cases hj : j = 0 <;> simp [hi, hj, Nat.add_assoc]
theorem mod5 (p : Int) : 0 ≤ Int.tmod (Int.tmod p 5 + 5) 5 ∧ Int.tmod (Int.tmod p 5 + 5) 5 ≤ 4 := by
  have h1 := Int.lt_tmod_of_pos p (show (0 : Int) < 5 by omega)
  have h2 := Int.tmod_lt_of_pos p (show (0 : Int) < 5 by omega)
  have e : Int.tmod (Int.tmod p 5 + 5) 5 = (Int.tmod p 5 + 5) % 5 := Int.tmod_eq_emod_of_nonneg (by omega)
  omega
theorem C_str {w : World} {A : Option Addr} {n : Nat} {xs : List ByteArray} (h : Kd.C Kd.string w A n xs) (t : Nat) (ht : t < xs.length) : ∃ ad, A = some ad ∧ w.cell? (ad.add t) = some (.string xs[t]) := by
  obtain ⟨hl, _, hc⟩ := h
  obtain ⟨ad, rfl, hcell⟩ := hc (by omega)
  obtain ⟨cs, _, hcs, hcc⟩ := hcell t xs[t] (List.getElem?_eq_getElem ht)
  have hcs : cs = [.string xs[t]] := hcs
  subst hcs
  refine ⟨ad, rfl, ?_⟩
  have := hcc 0 (.string xs[t]) rfl
  have e : t * Kd.string.sz + 0 = t := by show t * 1 + 0 = t; omega
  rwa [e] at this
theorem err_quiet (g : Nat) (f0 : ByteArray) (f1 : Int) (W : World) (h : W.heap[g]? = some (.cells #[.string f0, .int .i64 f1] 153 (0, 0))) :
    Calls Try.prog 56 #[.pointer (some ⟨g, 0, none⟩)] W fun e w' => e = .returned (.int .i64 f1) ∧ w' = W := by
  have h1 : W.cell? ⟨g, 1, none⟩ = some (.int .i64 f1) := (blk_cell h 1).trans rfl
  clear h
  go_enter Try.func56, Try.ntmps56
  go_wp2
  go_ret
  exact ⟨rfl, rfl⟩
theorem end_quiet (g : Nat) (f0 : ByteArray) (f1 : Int) (W : World) (h : W.heap[g]? = some (.cells #[.string f0, .int .i64 f1] 153 (0, 0))) :
    Calls Try.prog 57 #[.pointer (some ⟨g, 0, none⟩)] W fun e w' => e = .returned (.int .i64 (inEnd f0 f1)) ∧ w' = W := by
  have h0 : W.cell? ⟨g, 0, none⟩ = some (.string f0) := (blk_cell h 0).trans rfl
  have HH := Aside0.mk h
  clear h
  by_cases he : f1 = 0
  · subst he
    by_cases hs : f0.size = 0
    · have hl : (f0.toList == ([] : List UInt8)) = true := by rw [beq_iff_eq]; exact (toList_nil_iff f0).mpr hs
      have hl2 : f0.toList.isEmpty = true := by rw [(toList_nil_iff f0).mpr hs]; rfl
      have e : inEnd f0 0 = 0 := by unfold inEnd; rw [if_pos rfl, if_pos hs]
      rw [e]
      clear e
      go_enter Try.func57, Try.ntmps57
      go_wp2_with (go_at_call 56; refine (err_quiet g f0 0 _ HH.out).mono ?_; rintro e w' ⟨rfl, rfl⟩)
      go_ret
      exact ⟨rfl, rfl⟩
    · have hl : (f0.toList == ([] : List UInt8)) = false := by rw [beq_eq_false_iff_ne]; exact fun h => hs ((toList_nil_iff f0).mp h)
      have hl2 : f0.toList.isEmpty = false := by
        cases hc : f0.toList with
        | nil => exact absurd ((toList_nil_iff f0).mp hc) hs
        | cons a b => rfl
      have e : inEnd f0 0 = 4 := by unfold inEnd; rw [if_pos rfl, if_neg hs]
      rw [e]
      clear e
      go_enter Try.func57, Try.ntmps57
      go_wp2_with (go_at_call 56; refine (err_quiet g f0 0 _ HH.out).mono ?_; rintro e w' ⟨rfl, rfl⟩)
      go_ret
      exact ⟨rfl, rfl⟩
  · have he2 : (f1 != 0) = true := by rw [bne_iff_ne]; exact he
    have e : inEnd f0 f1 = f1 := by unfold inEnd; rw [if_neg he]
    rw [e]
    clear e
    go_enter Try.func57, Try.ntmps57
    go_wp2_with (go_at_call 56; refine (err_quiet g f0 f1 _ HH.out).mono ?_; rintro e w' ⟨rfl, rfl⟩)
    go_ret
    exact ⟨rfl, rfl⟩
theorem C_int {w : World} {k : IntKind} {A : Option Addr} {n : Nat} {xs : List Int} (h : Kd.C (Kd.int k) w A n xs) (t : Nat) (ht : t < xs.length) : ∃ ad, A = some ad ∧ w.cell? (ad.add t) = some (.int k xs[t]) := by
  obtain ⟨hl, _, hc⟩ := h
  obtain ⟨ad, rfl, hcell⟩ := hc (by omega)
  obtain ⟨cs, _, hcs, hcc⟩ := hcell t xs[t] (List.getElem?_eq_getElem ht)
  have hcs : cs = [.int k xs[t]] := hcs
  subst hcs
  refine ⟨ad, rfl, ?_⟩
  have := hcc 0 (.int k xs[t]) rfl
  have e : t * (Kd.int k).sz + 0 = t := by show t * 1 + 0 = t; omega
  rwa [e] at this
/-- An Out stays, where another row is written. -/
theorem OutB.grown {w w1 : World} {b o : Nat} {T : TypeId} {cs : Array Value} {base : Nat} {l : List Int} {bad : Bool} (h : OutB w b o T cs base l bad) {row : Option Nat} (hg : w.grownBy w1 row) {e : TypeId} {v : Value} {n bs sz : Nat} {ys : List Value}
    (hr : row = v.ownBlock) (ho : w.ownsRow bs e sz v n ys) (he : e ≠ 5) (heT : e ≠ T) : OutB w1 b o T cs base l bad := by
  obtain ⟨v0, h1, h2, h3, h4⟩ := h
  subst hr
  refine ⟨v0, h1, (hg.block b h2.lt (fun h => own_blk_ne ho h2 heT h.symm)).trans h2, own_move h3 (fun k hk => hg.block k (own_lt h3 k hk) (fun h => ?_)), h4⟩
  obtain ⟨c1, hc1⟩ := own_typed h3 k hk
  obtain ⟨c2, hc2⟩ := own_typed ho k h.symm
  rw [hc1] at hc2
  injection hc2 with hc2
  injection hc2 with _ hc2
  exact he hc2.symm
/-- A row of another type stays, where an Out is written. -/
theorem OutK.own {w w1 : World} {b base : Nat} (hk : OutK w w1 b base) {T : TypeId} {cs : Array Value} (hb : Blk w b T cs) {e : TypeId} {v : Value} {n bs sz : Nat} {ys : List Value} (ho : w.ownsRow bs e sz v n ys) (he : e ≠ 5) (heT : e ≠ T) : w1.ownsRow bs e sz v n ys := by
  refine own_move ho (fun k hk' => ?_)
  obtain ⟨c2, hc2⟩ := own_typed ho k hk'
  exact hk.typ k c2 e (0, 0) (fun h => own_blk_ne ho hb heT (by rw [← h]; exact hk')) he hc2
theorem OutB.blk {w : World} {b o : Nat} {T : TypeId} {cs : Array Value} {base : Nat} {l : List Int} {bad : Bool} (h : OutB w b o T cs base l bad) : ∃ cs', Blk w b T cs' := by
  obtain ⟨v0, h1, h2, _⟩ := h
  exact ⟨_, h2⟩
theorem own_len {w : World} {b e sz n n' : Nat} {v : Value} {xs : List Value} (h : w.ownsRow b e sz v n xs) (hn : n = n') : w.ownsRow b e sz v n' xs := hn ▸ h
end Go.Proofs.Ytnajmemcdipknaa.PK
namespace Go.Proofs.Ytnajmemcdipknaa.PK
open Go.RowKit Go.Proofs.YtnajmemcdipknaaW.PrintWords Go.Proofs.YtnajmemcdipknaaW.PrintLast Go.Proofs.YtnajmemcdipknaaW.PrintMore
open Go.ChangeShapes Go.WideShapes
set_option linter.unusedVariables false
set_option linter.unusedSimpArgs false
set_option maxRecDepth 100000
/-- What takes numbers, yes and no, texts and counts: I says what it holds, ok how much it may hold. -/
structure Takes (p : Value) (ok : Nat → Prop) (I : World → List Int → Bool → Prop) : Prop where
  int : ∀ w l bad n, I w l bad → ok (l.length + 8) → Calls Try.prog 40 #[p, .int .i64 n] w fun e w' => e = .returned (.tuple #[]) ∧ I w' (l ++ putL n) (bad || !fitsN n)
  count : ∀ w l bad n, I w l bad → ok (l.length + 8) → Calls Try.prog 92 #[p, .int .i64 n] w fun e w' => e = .returned (.tuple #[]) ∧ I w' (l ++ putL n) (bad || !decide (n ≤ 65536))
  text : ∀ w l bad s, I w l bad → ok (l.length + 65544) → Calls Try.prog 41 #[p, .string s] w fun e w' => e = .returned (.tuple #[]) ∧ I w' (l ++ textL s) (bad || decide (65536 < s.size))
def intsL (xs : List Int) : List Int := putL xs.length ++ xs.flatMap putL
def textsL (xs : List ByteArray) : List Int := putL xs.length ++ xs.flatMap textL
def badInts (xs : List Int) : Bool := !decide ((xs.length : Int) ≤ 65536) || xs.any fun n => !fitsN n
def badTexts (xs : List ByteArray) : Bool := !decide ((xs.length : Int) ≤ 65536) || xs.any fun s => decide (65536 < s.size)
theorem flat_le {α : Type} (f : α → List Int) (m : Nat) (hf : ∀ x, (f x).length ≤ m) (xs : List α) : (xs.flatMap f).length ≤ m * xs.length := by
  induction xs with
  | nil => simp
  | cons a xs ih =>
    rw [List.flatMap_cons, List.length_append, List.length_cons, Nat.mul_add, Nat.mul_one]
    have := hf a; omega
theorem take_mul {α : Type} (m : Nat) (xs : List α) (j : Nat) : m * (xs.take j).length ≤ m * xs.length := Nat.mul_le_mul_left _ (by rw [List.length_take]; omega)
theorem textL_len (s : ByteArray) : (textL s).length ≤ 65544 := by
  unfold textL
  split
  · simp
  · have := putL_len s.size
    rw [List.length_append, bytesOf_len]; omega
theorem flat_take {α : Type} (f : α → List Int) (xs : List α) (j : Nat) (h : j < xs.length) : (xs.take (j + 1)).flatMap f = (xs.take j).flatMap f ++ f xs[j] := by
  rw [List.take_succ_eq_append_getElem h, List.flatMap_append]; simp
theorem any_take {α : Type} (f : α → Bool) (xs : List α) (j : Nat) (h : j < xs.length) : (xs.take (j + 1)).any f = ((xs.take j).any f || f xs[j]) := by
  rw [List.take_succ_eq_append_getElem h, List.any_append]; simp
section
variable {p : Value} {ok : Nat → Prop} {I : World → List Int → Bool → Prop} (HT : Takes p ok I)
include HT
set_option maxHeartbeats 1600000 in
theorem out_texts (A : Option Addr) (c : Nat) (xs : List ByteArray) (l : List Int) (bad : Bool) (w : World) (hI : I w l bad)
    (hR : ∀ w' l' bad', I w' l' bad' → Kd.C Kd.string w' A xs.length xs) (hok : ∀ n, n ≤ l.length + (65544 * xs.length + 70000) → ok n) (hp : ∃ a, p = .pointer a) :
    Calls Try.prog 42 #[p, .slice A xs.length c] w fun e w' => e = .returned (.tuple #[]) ∧ I w' (l ++ textsL xs) (bad || badTexts xs) := by
  obtain ⟨a, rfl⟩ := hp
  have H0 := Aside0.mk hI
  have HR := Aside0.mk hR
  have HOK := Aside0.mk hok
  clear hI hR hok
  have hlen := putL_len xs.length
  have hfl : ∀ j, ((xs.take j).flatMap textL).length ≤ 65544 * xs.length := fun j => Nat.le_trans (flat_le textL 65544 textL_len _) (take_mul _ xs j)
  have HF := Aside0.mk hfl
  have HL := Aside0.mk hlen
  clear hfl hlen
  go_enter Try.func42, Try.ntmps42
  go_wp2_with fail
  refine (HT.count w l bad xs.length H0.out (HOK.out _ (by omega))).mono ?_
  rintro e w1 ⟨rfl, hI1⟩
  have HI1 := Aside0.mk hI1
  clear hI1
  go_wp2_with fail
  go_loopw [5, 12] (fun _ i wr => ∃ j : Nat, j ≤ xs.length ∧ i = .int .i64 j ∧ Aside0 (I wr (l ++ putL xs.length ++ (xs.take j).flatMap textL) (bad || !decide ((xs.length : Int) ≤ 65536) || (xs.take j).any fun s => decide (65536 < s.size)))) (fun _ i _ => xs.length - (intOf i).toNat)
  case atStart => exact ⟨0, Nat.zero_le _, rfl, ⟨by simpa using HI1.out⟩⟩
  case round =>
    obtain ⟨j, hj, rfl, hrel⟩ := hrel
    clear HI1
    by_cases hjn : j < xs.length
    · have hmx := (HR.out _ _ _ hrel.out).2.1
      obtain ⟨ad, rfl, hcell⟩ := C_str (HR.out _ _ _ hrel.out) j hjn
      have hd : decide ((j : Int) < (xs.length : Int)) = true := by simp; omega
      obtain ⟨x, hx⟩ : ∃ x, x = xs[j] := ⟨_, rfl⟩
      rw [← hx] at hcell
      have HX := Aside0.mk hx
      clear hx
      go_wp2_with fail
      refine (HT.text wr _ _ x hrel.out (HOK.out _ (by have := HF.out j; have := HL.out; simp only [List.length_append]; omega))).mono ?_
      rintro e w2 ⟨rfl, hI2⟩
      have HI2 := Aside0.mk hI2
      clear hI2 hrel hcell
      go_wp2_with fail
      go_roundw
      case rel =>
        refine ⟨j + 1, by omega, by go_num, ⟨?_⟩⟩
        have h := HI2.out
        rw [flat_take textL xs j hjn, any_take _ xs j hjn, ← List.append_assoc, ← Bool.or_assoc, ← HX.out]
        exact h
      case measure => simp [intOf]; omega
    · obtain rfl : xs.length = j := by omega
      have hd : decide ((xs.length : Int) < (xs.length : Int)) = false := by simp
      go_wp2
      go_end0
      refine ⟨rfl, ?_⟩
      have h := hrel.out
      rw [List.take_length] at h
      unfold textsL badTexts
      rw [← List.append_assoc, ← Bool.or_assoc]
      exact h
end
end Go.Proofs.Ytnajmemcdipknaa.PK
namespace Go.Proofs.Ytnajmemcdipknaa.PK
open Go.RowKit Go.Proofs.YtnajmemcdipknaaW.PrintWords Go.Proofs.YtnajmemcdipknaaW.PrintLast Go.Proofs.YtnajmemcdipknaaW.PrintMore
open Go.ChangeShapes Go.WideShapes
set_option linter.unusedVariables false
set_option linter.unusedSimpArgs false
set_option maxRecDepth 100000
def NilW (w : World) (e : Ending) (w' : World) : Prop := e = .returned (.tuple #[]) ∧ Below w.heap.size w w'
theorem nil_put (s : ByteArray) (ok : Bool) (w : World) : Calls Try.prog 91 #[.pointer none, .string s, .bool ok] w fun e w' => e = .returned (.tuple #[]) ∧ w' = w := by
  go_enter Try.func91, Try.ntmps91
  go_wp2
  refine bodyPost_ret (results_none rfl _ _ _) rfl ?_
  exact ⟨rfl, rfl⟩
theorem nil_int (n : Int) (w : World) : Calls Try.prog 40 #[.pointer none, .int .i64 n] w (NilW w) := by
  obtain ⟨S, hS⟩ : ∃ S, S = strOfNums (putL n) := ⟨_, rfl⟩
  have HS := Aside0.mk hS
  clear hS
  go_enter Try.func40, Try.ntmps40
  go_wp2_with fail
  refine (octets_Put.calls n S _ (by rw [HS.out]; rfl)).mono ?_
  rintro e w1 ⟨rfl, hbl⟩
  have HB := Aside0.mk hbl
  clear hbl
  go_wp2_with fail
  refine (nil_put _ _ _).mono ?_
  rintro e w2 ⟨rfl, rfl⟩
  go_wp2_with fail
  go_end0
  exact ⟨rfl, HB.out⟩
theorem nil_count (n : Int) (w : World) : Calls Try.prog 92 #[.pointer none, .int .i64 n] w (NilW w) := by
  obtain ⟨S, hS⟩ : ∃ S, S = strOfNums (putL n) := ⟨_, rfl⟩
  have HS := Aside0.mk hS
  clear hS
  go_enter Try.func92, Try.ntmps92
  go_wp2_with fail
  refine (octets_Put.calls n S _ (by rw [HS.out]; rfl)).mono ?_
  rintro e w1 ⟨rfl, hbl⟩
  have HB := Aside0.mk hbl
  clear hbl
  go_wp2_with fail
  refine (nil_put _ _ _).mono ?_
  rintro e w2 ⟨rfl, rfl⟩
  go_wp2_with fail
  go_end0
  exact ⟨rfl, HB.out⟩
theorem nil_text (s : ByteArray) (w : World) : Calls Try.prog 41 #[.pointer none, .string s] w (NilW w) := by
  by_cases hs : 65536 < s.size
  · have hs' : decide ((65536 : Int) < (s.size : Int)) = true := by simp; omega
    go_enter Try.func41, Try.ntmps41
    go_wp2_with fail
    refine (nil_put _ _ _).mono ?_
    rintro e w2 ⟨rfl, rfl⟩
    go_wp2_with fail
    refine bodyPost_ret (results_none rfl _ _ _) rfl ?_
    exact ⟨rfl, Below.refl _ _⟩
  · have hs' : decide ((65536 : Int) < (s.size : Int)) = false := by simp; omega
    obtain ⟨S, hS⟩ : ∃ S, S = strOfNums (putL s.size) := ⟨_, rfl⟩
    have HS := Aside0.mk hS
    clear hS
    go_enter Try.func41, Try.ntmps41
    go_wp2_with fail
    refine (octets_Put.calls s.size S _ (by rw [HS.out]; rfl)).mono ?_
    rintro e w1 ⟨rfl, hbl⟩
    have HB := Aside0.mk hbl
    clear hbl
    go_wp2_with fail
    refine (nil_put _ _ _).mono ?_
    rintro e w2 ⟨rfl, rfl⟩
    go_wp2_with fail
    refine (nil_put _ _ _).mono ?_
    rintro e w2 ⟨rfl, rfl⟩
    go_wp2_with fail
    go_end0
    exact ⟨rfl, HB.out⟩
theorem nil_bytes (w : World) : Calls Try.prog 43 #[.pointer none] w fun e w' => e = .returned (.tuple #[.string ⟨#[]⟩, .bool false]) ∧ w' = w := by
  go_enter Try.func43, Try.ntmps43
  go_wp2
  go_ret2
  exact ⟨rfl, rfl⟩
/-- No Out takes all. -/
theorem takes_nil (w0 : World) : Takes (.pointer none) (fun _ => True) (fun w' _ _ => Below w0.heap.size w0 w') where
  int w l bad n h _ := (nil_int n w).mono fun e w' ⟨he, hb⟩ => ⟨he, below_then h h.size hb⟩
  count w l bad n h _ := (nil_count n w).mono fun e w' ⟨he, hb⟩ => ⟨he, below_then h h.size hb⟩
  text w l bad s h _ := (nil_text s w).mono fun e w' ⟨he, hb⟩ => ⟨he, below_then h h.size hb⟩
/-- An Out, from a world on. -/
def OutI (w0 : World) (b o : Nat) (T : TypeId) (cs : Array Value) (base : Nat) (w' : World) (l : List Int) (bad : Bool) : Prop := OutB w' b o T cs base l bad ∧ OutK w0 w' b base ∧ base ≤ w'.heap.size
theorem takes_out (w0 : World) (b o : Nat) (T : TypeId) (cs : Array Value) (base : Nat) : Takes (.pointer (some ⟨b, o, none⟩)) (fun n => n ≤ 140737488355328) (OutI w0 b o T cs base) where
  int w l bad n h hl := (out_int b o T cs base l bad w h.1 h.2.2 n hl).mono fun e w' ⟨he, hb, hk⟩ => ⟨he, hb, h.2.1.trans hk, Nat.le_trans h.2.2 hk.size⟩
  count w l bad n h hl := (out_count b o T cs base l bad w h.1 h.2.2 n hl).mono fun e w' ⟨he, hb, hk⟩ => ⟨he, hb, h.2.1.trans hk, Nat.le_trans h.2.2 hk.size⟩
  text w l bad n h hl := (out_text b o T cs base l bad w h.1 h.2.2 n hl).mono fun e w' ⟨he, hb, hk⟩ => ⟨he, hb, h.2.1.trans hk, Nat.le_trans h.2.2 hk.size⟩
theorem fits_in {n : Int} (h : -9007199254740992 ≤ n) (h2 : n ≤ 9007199254740992) : fitsN n = true := by unfold fitsN; simp; omega
theorem fits_hi {n : Int} (h : ¬ n ≤ 9007199254740992) : fitsN n = false := by unfold fitsN; simp; omega
theorem fits_lo {n : Int} (h : ¬ -9007199254740992 ≤ n) : fitsN n = false := by unfold fitsN; simp; omega
theorem outI_below {w w1 wr : World} {b o : Nat} {T : TypeId} {cs : Array Value} {base : Nat} {l : List Int} {bad : Bool} (h1 : Below w.heap.size w w1) (h : OutI w1 b o T cs base wr l bad) (hb : w.heap.size ≤ base) (hb2 : w.heap.size ≤ b) : Below w.heap.size w wr := h1.trans (h.2.1.below hb hb2)
theorem outI_grow {w1 : World} {b o : Nat} {T : TypeId} {cs : Array Value} {base : Nat} (w w2 : World) (l : List Int) (bad : Bool) (h : OutI w1 b o T cs base w l bad) (hb : Below w.heap.size w w2) : OutI w1 b o T cs base w2 l bad :=
  ⟨h.1.below hb, h.2.1.trans (OutK.of_below hb h.2.2), Nat.le_trans h.2.2 hb.size⟩
theorem int_blk {w : World} {A : Option Addr} {xs : List Int} (h : Kd.C (Kd.int .i64) w A xs.length xs) (a : Addr) (ha : A = some a) (hl : 0 < xs.length) : a.block < w.heap.size := by
  obtain ⟨ad, rfl, hc⟩ := C_int h 0 hl
  injection ha with ha
  subst ha
  have := World.block_lt_of_cell? w _ hc
  rwa [block_of_add] at this
theorem str_blk {w : World} {A : Option Addr} {xs : List ByteArray} (h : Kd.C Kd.string w A xs.length xs) (a : Addr) (ha : A = some a) (hl : 0 < xs.length) : a.block < w.heap.size := by
  obtain ⟨ad, rfl, hc⟩ := C_str h 0 hl
  injection ha with ha
  subst ha
  have := World.block_lt_of_cell? w _ hc
  rwa [block_of_add] at this
/-- An item's kind, its bytes, whether it is bad. -/
def kindN (n : Int) : Int := Int.tmod (Int.tmod n 5 + 5) 5
def itemL (k n : Int) (b : Bool) (t : ByteArray) (ns : List Int) (ts : List ByteArray) : List Int :=
  if kindN k = 0 then putL n else if kindN k = 1 then [if b then 1 else 0] else if kindN k = 2 then textL t else if kindN k = 3 then intsL ns else textsL ts
def itemBad (k n : Int) (b : Bool) (t : ByteArray) (ns : List Int) (ts : List ByteArray) : Bool :=
  if kindN k = 0 then !fitsN n else if kindN k = 1 then false else if kindN k = 2 then decide (65536 < t.size) else if kindN k = 3 then badInts ns else badTexts ts
def itemV (k n : Int) (b : Bool) (t : ByteArray) (A4 : Option Addr) (n4 c4 : Nat) (A5 : Option Addr) (n5 c5 : Nat) : Value :=
  .agg #[.int .i64 k, .int .i64 n, .bool b, .string t, .slice A4 n4 c4, .slice A5 n5 c5]
theorem ok_texts {ok : Nat → Prop} {L N T : Nat} (h : ∀ m, m ≤ L + (65544 * T + 8 * N + 70000) → ok m) : ∀ m, m ≤ L + (65544 * T + 70000) → ok m := by
  intro m hm
  generalize 65544 * T = X at h hm
  generalize 70000 = Y at h hm
  exact h m (by omega)
theorem ok_ints {ok : Nat → Prop} {L N T : Nat} (h : ∀ m, m ≤ L + (65544 * T + 8 * N + 70000) → ok m) : ∀ m, m ≤ L + (8 * N + 16) → ok m := fun m hm => h m (by omega)
end Go.Proofs.Ytnajmemcdipknaa.PK
namespace Go.Proofs.Ytnajmemcdipknaa.PK
open Go.RowKit Go.Proofs.YtnajmemcdipknaaW.PrintWords Go.Proofs.YtnajmemcdipknaaW.PrintLast Go.Proofs.YtnajmemcdipknaaW.PrintMore
set_option linter.unusedVariables false
set_option linter.unusedSimpArgs false
set_option maxRecDepth 100000
theorem rest_range {s : ByteArray} {a r : List Int} (h : bytesOf s = a ++ r) : ∀ y ∈ r, 0 ≤ y ∧ y ≤ 255 := fun y hy => bytesOf_range s y (by rw [h]; exact List.mem_append_right _ hy)
theorem cut_rest {s : ByteArray} {a r : List Int} (h : bytesOf s = a ++ r) (n : Nat) (hn : n = a.length) : bytesOf (s.extract n s.size) = r := by
  rw [bytesOf_extract, ← bytesOf_len, List.take_length, h, hn, List.drop_left]
theorem rd_int (n : Int) (hn : -9007199254740992 ≤ n ∧ n ≤ 9007199254740992) (s : ByteArray) (r : List Int) (h : bytesOf s = putL n ++ r) : ∃ s', inInt s 0 = (n, s', 0) ∧ bytesOf s' = r := by
  have hg := get_put n hn s (strOfNums r) (by rw [h, strOf_bytes _ (rest_range h)])
  refine ⟨s.extract (putL n).length s.size, ?_, cut_rest h _ rfl⟩
  unfold inInt
  rw [if_pos rfl, hg, if_pos rfl, Int.toNat_natCast]
theorem rd_bool (b : Bool) (s : ByteArray) (r : List Int) (h : bytesOf s = [if b then 1 else 0] ++ r) : ∃ s', inBool s 0 = (b, s', 0) ∧ bytesOf s' = r := by
  refine ⟨s.extract 1 s.size, ?_, cut_rest h _ rfl⟩
  have hsz : s.size = r.length + 1 := by rw [← bytesOf_len, h]; simp
  have hb : bt s 0 = if b then 1 else 0 := by
    rw [bt_eq, h]; rfl
  unfold inBool
  rw [if_pos rfl, if_neg (by omega), hb]
  cases b <;> simp
theorem rd_size (n most : Int) (h0 : 0 ≤ n) (h1 : n ≤ most) (h2 : n ≤ 65536) (s : ByteArray) (r : List Int) (h : bytesOf s = putL n ++ r) : ∃ s', inSize s 0 most = (n, s', 0) ∧ bytesOf s' = r := by
  obtain ⟨s', hi, hr⟩ := rd_int n (by omega) s r h
  refine ⟨s', ?_, hr⟩
  have he : sizeErr n most = 0 := by unfold sizeErr; rw [if_neg (by omega), if_neg (by omega)]
  unfold inSize
  rw [hi]
  simp only [if_true, he]
theorem rd_text (t : ByteArray) (ht : t.size ≤ 65536) (s : ByteArray) (r : List Int) (h : bytesOf s = textL t ++ r) : ∃ s', inText s 0 = (t, s', 0) ∧ bytesOf s' = r := by
  have htl : textL t = putL t.size ++ bytesOf t := by unfold textL; rw [if_neg (by omega)]
  rw [htl, List.append_assoc] at h
  obtain ⟨s', hi, hr⟩ := rd_size t.size 65536 (by omega) (by omega) (by omega) s _ h
  refine ⟨s'.extract t.size s'.size, ?_, cut_rest hr _ (bytesOf_len t).symm⟩
  have hsz : s'.size = t.size + r.length := by rw [← bytesOf_len, hr, List.length_append, bytesOf_len]
  unfold inText
  rw [hi]
  simp only [if_true]
  rw [if_neg (by omega), Int.toNat_natCast]
  have : s'.extract 0 t.size = t := by
    apply bytesOf_inj
    rw [bytesOf_extract, hr, ← bytesOf_len t, List.take_left]
    rfl
  rw [this]
theorem rd_seq {α : Type} (f : ByteArray → α × ByteArray × Int) (enc : α → List Int) (xs : List α) (hf : ∀ x ∈ xs, ∀ s r, bytesOf s = enc x ++ r → ∃ s', f s = (x, s', 0) ∧ bytesOf s' = r) :
    ∀ s r, bytesOf s = xs.flatMap enc ++ r → ∃ s', seqL f xs.length s = (xs, s', 0) ∧ bytesOf s' = r := by
  induction xs with
  | nil => intro s r h; exact ⟨s, rfl, by simpa using h⟩
  | cons x xs ih =>
    intro s r h
    rw [List.flatMap_cons, List.append_assoc] at h
    obtain ⟨s1, h1, hr1⟩ := hf x List.mem_cons_self s _ h
    obtain ⟨s2, h2, hr2⟩ := ih (fun y hy => hf y (List.mem_cons_of_mem _ hy)) s1 r hr1
    refine ⟨s2, ?_, hr2⟩
    simp only [List.length_cons, seqL, h1, if_true, h2]
theorem rd_ints (xs : List Int) (hx : ∀ x ∈ xs, -9007199254740992 ≤ x ∧ x ≤ 9007199254740992) (hl : xs.length ≤ 200) (s : ByteArray) (r : List Int) (h : bytesOf s = intsL xs ++ r) : ∃ s', inInts s 0 200 = (xs, s', 0) ∧ bytesOf s' = r := by
  unfold intsL at h
  rw [List.append_assoc] at h
  obtain ⟨s1, h1, hr1⟩ := rd_size xs.length 200 (by omega) (by omega) (by omega) s _ h
  obtain ⟨s2, h2, hr2⟩ := rd_seq (fun s => inInt s 0) putL xs (fun x hm s r h => rd_int x (hx x hm) s r h) s1 r hr1
  refine ⟨s2, ?_, hr2⟩
  unfold inInts inSeq
  rw [h1]
  simp only [if_true, Int.toNat_natCast]
  exact h2
theorem rd_texts (xs : List ByteArray) (hx : ∀ x ∈ xs, x.size ≤ 65536) (hl : xs.length ≤ 200) (s : ByteArray) (r : List Int) (h : bytesOf s = textsL xs ++ r) : ∃ s', inTexts s 0 200 = (xs, s', 0) ∧ bytesOf s' = r := by
  unfold textsL at h
  rw [List.append_assoc] at h
  obtain ⟨s1, h1, hr1⟩ := rd_size xs.length 200 (by omega) (by omega) (by omega) s _ h
  obtain ⟨s2, h2, hr2⟩ := rd_seq (fun s => inText s 0) textL xs (fun x hm s r h => rd_text x (hx x hm) s r h) s1 r hr1
  refine ⟨s2, ?_, hr2⟩
  unfold inTexts inSeq
  rw [h1]
  simp only [if_true, Int.toNat_natCast]
  exact h2
theorem rd_textsN (most : Int) (xs : List ByteArray) (hx : ∀ x ∈ xs, x.size ≤ 65536) (hl : (xs.length : Int) ≤ most) (hl2 : xs.length ≤ 65536) (s : ByteArray) (r : List Int) (h : bytesOf s = textsL xs ++ r) : ∃ s', inTexts s 0 most = (xs, s', 0) ∧ bytesOf s' = r := by
  unfold textsL at h
  rw [List.append_assoc] at h
  obtain ⟨s1, h1, hr1⟩ := rd_size xs.length most (by omega) hl (by omega) s _ h
  obtain ⟨s2, h2, hr2⟩ := rd_seq (fun s => inText s 0) textL xs (fun x hm s r h => rd_text x (hx x hm) s r h) s1 r hr1
  refine ⟨s2, ?_, hr2⟩
  unfold inTexts inSeq
  rw [h1]
  simp only [if_true, Int.toNat_natCast]
  exact h2
/-- Is an item too much to be played? -/
def largeB (t : ByteArray) (ns : List Int) (ts : List ByteArray) : Bool := decide (2000 < t.size) || decide (200 < ns.length) || decide (200 < ts.length) || ts.any fun s => decide (500 < s.size)
end Go.Proofs.Ytnajmemcdipknaa.PK
namespace Go.Proofs.Ytnajmemcdipknaa.PK
open Go.RowKit Go.Proofs.YtnajmemcdipknaaW.PrintWords Go.Proofs.YtnajmemcdipknaaW.PrintLast Go.Proofs.YtnajmemcdipknaaW.PrintMore
open Go.ChangeShapes Go.WideShapes
set_option linter.unusedVariables false
set_option linter.unusedSimpArgs false
set_option maxRecDepth 100000
/-- The fields from field i on, which begins at cell o. -/
def OpensF {α : Type} (P : Program) (W : World) (fs : Array Field) (i o tot : Nat) (d : Kd α) (wf : α → Prop) : Prop :=
  ∀ (H : Type) (enc : TypeId × Value → H) (base : Nat) (spare : Nat → Bool) (held : Bool) (fuel : Nat) (cs : List Value), cs.length = tot →
    (∀ (j : Nat) (f : Field), fs[j]? = some f → ∃ x, DataW.trod enc P W base spare held fuel f.type ((cs.drop f.offset).take (P.cellsOf f.type)) = some x) → ∃ y, d.K W y (cs.drop o) ∧ wf y
theorem opensF_last {α : Type} {P : Program} {W : World} {fs : Array Field} {i o tot : Nat} {f : Field} {d : Kd α} {wf : α → Prop} (hf : fs[i]? = some f) (ho : f.offset = o) (h : Opens P W f.type d wf) (ht : o + P.cellsOf f.type = tot) : OpensF P W fs i o tot d wf := by
  intro H enc base spare held fuel cs hl hx
  obtain ⟨x, hx⟩ := hx i f hf
  obtain ⟨y, hy, hw⟩ := h H enc base spare held fuel _ x hx
  rw [ho, List.take_of_length_le (by rw [List.length_drop]; omega)] at hy
  exact ⟨y, hy, hw⟩
theorem opensF_more {α β : Type} {P : Program} {W : World} {fs : Array Field} {i o tot : Nat} {f : Field} {d : Kd α} {wf : α → Prop} {d' : Kd β} {wf' : β → Prop} (hf : fs[i]? = some f) (ho : f.offset = o) (h : Opens P W f.type d wf) (hn : OpensF P W fs (i + 1) (o + P.cellsOf f.type) tot d' wf') :
    OpensF P W fs i o tot (Kd.pair d d') (fun y => wf y.1 ∧ wf' y.2) := by
  intro H enc base spare held fuel cs hl hx
  obtain ⟨y', hy', hw'⟩ := hn H enc base spare held fuel cs hl hx
  obtain ⟨x, hx⟩ := hx i f hf
  obtain ⟨y, hy, hw⟩ := h H enc base spare held fuel _ x hx
  rw [ho] at hy
  refine ⟨(y, y'), ⟨_, _, ?_, hy, hy'⟩, hw, hw'⟩
  rw [← List.drop_drop]
  exact (List.take_append_drop _ _).symm
theorem opens_struct {α : Type} {P : Program} {W : World} {T : TypeId} {fs : Array Field} {d : Kd α} {wf : α → Prop} (ht : P.underlying T = some (.struct fs)) (h : OpensF P W fs 0 0 (P.cellsOf T) d wf) : Opens P W T d wf := by
  intro H enc base spare held fuel cs x hx
  obtain ⟨xs, n, _, _, hl, hxl, hf⟩ := DataW.trod_struct ht hx
  obtain ⟨y, hy, hw⟩ := h H enc base spare held n cs hl (fun j f hj => by
    have hj' : j < xs.length := by rw [hxl]; exact (Array.getElem?_eq_some_iff.1 hj).1
    exact ⟨_, (hf j f hj).trans (List.getElem?_eq_getElem hj')⟩)
  exact ⟨y, hy, hw⟩
/-- A struct argument, opened. -/
theorem arg_struct {α : Type} {H : Type} {enc : TypeId × Value → H} {P : Program} {W : World} {T : TypeId} {d : Kd α} {wf : α → Prop} {base : Nat} {spare : Nat → Bool} {held : Bool} {cs : Array Value} {dt : DataW H} {ps : List MemPlace}
    (ho : Opens P W T d wf) (h : DataW.Trod enc P W base spare held T (.agg cs) dt ps) : ∃ y, d.K W y cs.toList ∧ wf y := by
  obtain ⟨fuel, hf⟩ := h
  exact ho H enc base spare held fuel _ _ hf
/-- Kinds: an item; what its cells are. -/
def kItem : Kd (Int × Int × Bool × ByteArray × List Int × List ByteArray) := Kd.pair (Kd.int .i64) (Kd.pair (Kd.int .i64) (Kd.pair Kd.bool (Kd.pair Kd.string (Kd.pair (Kd.slice 3 (Kd.int .i64)) (Kd.slice 9 Kd.string)))))
theorem item_cells {W : World} {x : Int × Int × Bool × ByteArray × List Int × List ByteArray} {cs : List Value} (h : kItem.K W x cs) : ∃ A4 c4 A5 c5, cs = [.int .i64 x.1, .int .i64 x.2.1, .bool x.2.2.1, .string x.2.2.2.1, .slice A4 x.2.2.2.2.1.length c4, .slice A5 x.2.2.2.2.2.length c5] ∧
    Kd.C (Kd.int .i64) W A4 x.2.2.2.2.1.length x.2.2.2.2.1 ∧ x.2.2.2.2.1.length ≤ c4 ∧ Kd.C Kd.string W A5 x.2.2.2.2.2.length x.2.2.2.2.2 ∧ x.2.2.2.2.2.length ≤ c5 := by
  obtain ⟨q0, r0, rfl, h0, q1, r1, rfl, h1, q2, r2, rfl, h2, q3, r3, rfl, h3, q4, r4, rfl, ⟨A4, c4, h4, l4, k4⟩, A5, c5, h5, l5, k5⟩ := h
  have h0 : q0 = [.int .i64 x.1] := h0
  have h1 : q1 = [.int .i64 x.2.1] := h1
  have h2 : q2 = [.bool x.2.2.1] := h2
  have h3 : q3 = [.string x.2.2.2.1] := h3
  subst h0; subst h1; subst h2; subst h3; subst h4; subst h5
  exact ⟨A4, c4, A5, c5, rfl, k4, l4, k5, l5⟩
end Go.Proofs.Ytnajmemcdipknaa.PK
