/- How a law's arguments are read, kind by kind: from the row's reading to what the walks ask. Condition: none. -/
import Derived.Test.YtcflcmoblngfbaaWWords
import Derived.Test.YtcflcmoblngfbaaWMore
import Derived.ProofKit
import Derived.OpenShut
import Derived.Deep.Slices
import Derived.SizedLaws
import Derived.DataShut
namespace Go.Proofs.Ytcflcmoblngfbaa.PK
open Go.RowKit Go.Proofs.YtcflcmoblngfbaaW.PrintWords Go.Proofs.YtcflcmoblngfbaaW.PrintLast Go.Proofs.YtcflcmoblngfbaaW.PrintMore
open Go.ChangeShapes Go.WideShapes
set_option linter.unusedVariables false
set_option linter.unusedSimpArgs false
/-- Whatever reads as a datum of this type has cells that say a value of this kind. -/
def Opens {α : Type} (P : Program) (W : World) (T : TypeId) (d : Kd α) (wf : α → Prop) : Prop :=
  ∀ (H : Type) (enc : TypeId × Value → H) (base : Nat) (spare : Nat → Bool) (held : Bool) (fuel : Nat) (cs : List Value) (x : DataW H × List MemPlace), DataW.trod enc P W base spare held fuel T cs = some x → ∃ y, d.K W y cs ∧ wf y
theorem opens_int {P : Program} {W : World} {T : TypeId} {k : IntKind} (ht : P.underlying T = some (.int k)) : Opens P W T (Kd.int k) (fun n => (Lit.int k n).wf = true) := by
  intro H enc base spare held fuel cs x h
  obtain ⟨n, rfl, _, hw⟩ := DataW.trod_int ht h
  exact ⟨n, rfl, hw⟩
theorem opens_bool {P : Program} {W : World} {T : TypeId} (ht : P.underlying T = some .bool) : Opens P W T Kd.bool (fun _ => True) := by
  intro H enc base spare held fuel cs x h
  obtain ⟨n, rfl, _⟩ := DataW.trod_bool ht h
  exact ⟨n, rfl, trivial⟩
theorem opens_string {P : Program} {W : World} {T : TypeId} (ht : P.underlying T = some .string) : Opens P W T Kd.string (fun s => s.size ≤ 9223372036854775807) := by
  intro H enc base spare held fuel cs x h
  obtain ⟨s, rfl, _, hs⟩ := DataW.trod_string ht h
  exact ⟨s, rfl, by unfold maxLen at hs; exact hs⟩
theorem list_of {α : Type} {n : Nat} {p : Nat → α → Prop} (h : ∀ i, i < n → ∃ y, p i y) : ∃ xs : List α, xs.length = n ∧ ∀ i y, xs[i]? = some y → p i y := by
  induction n with
  | zero => exact ⟨[], rfl, fun i y hy => by simp at hy⟩
  | succ n ih =>
    obtain ⟨xs, hl, hx⟩ := ih (fun i hi => h i (by omega))
    obtain ⟨y, hy⟩ := h n (by omega)
    refine ⟨xs ++ [y], by simp [hl], fun i z hz => ?_⟩
    rcases Nat.lt_or_ge i n with hi | hi
    · rw [List.getElem?_append_left (by omega)] at hz
      exact hx i z hz
    · rw [List.getElem?_append_right (by omega)] at hz
      have : i = n := by
        have := (List.getElem?_eq_some_iff.1 hz).1
        simp at this
        omega
      subst this
      simp [hl] at hz
      subst hz
      exact hy
theorem opens_slice {α : Type} {P : Program} {W : World} {T e : TypeId} {d : Kd α} {wf : α → Prop} (ht : P.underlying T = some (.slice e)) (hc : P.cellsOf e = d.sz) (ho : Opens P W e d wf) :
    Opens P W T (Kd.slice e d) (fun xs => xs.length ≤ 9223372036854775807 ∧ ∀ x ∈ xs, wf x) := by
  intro H enc base spare held fuel cs x h
  rcases Deep.open_slice ht h with ⟨rfl, _⟩ | ⟨a, len, cap, m, n, D, Pl, rfl, hb, hl, hm, hmm, _, hel⟩
  · exact ⟨[], ⟨none, 0, rfl, Nat.zero_le _, rfl, by simp, fun h => absurd h (by simp)⟩, by simp, fun x hx => by simp at hx⟩
  · unfold maxLen at hm
    have hlm : len ≤ m := by rw [hmm]; split <;> omega
    obtain ⟨xs, hxl, hxs⟩ := list_of (n := len) (p := fun i y => wf y ∧ ∃ c : List Value, c.length = d.sz ∧ d.K W y c ∧ ∀ j u, c[j]? = some u → W.cell? (a.add (i * d.sz + j)) = some u) (fun i hi => by
      obtain ⟨c, h1, h2⟩ := hel i (by omega)
      obtain ⟨y, hy, hw⟩ := ho H enc base spare held n c _ h2
      obtain ⟨_, hcl, hcc⟩ := World.cells?_some h1
      refine ⟨y, hw, c, by rw [hcl, hc], hy, fun j u hu => ?_⟩
      have hj : j < P.cellsOf e := by
        have := (List.getElem?_eq_some_iff.1 hu).1
        omega
      have := hcc j hj
      rw [Deep.add_add, hc, hu] at this
      exact this)
    refine ⟨xs, ⟨some a, cap, by rw [hxl], by omega, rfl, by omega, fun _ => ⟨a, rfl, fun j p hp => ?_⟩⟩, by omega, fun x hx => ?_⟩
    · obtain ⟨_, c, h1, h2, h3⟩ := hxs j p hp
      exact ⟨c, h1, h2, h3⟩
    · obtain ⟨i, hi, rfl⟩ := List.getElem_of_mem hx
      exact (hxs i _ (List.getElem?_eq_getElem hi)).1
/-- An array of numbers: its numbers. -/
def kArr (k : IntKind) (n : Nat) : Kd (List Int) where
  sz := n
  E := []
  K := fun _ x cs => x.length = n ∧ cs = nums k x
  M := fun _ _ _ x cs => x.length = n ∧ cs = nums k x
  K_len := fun h => by rw [h.2, nums_length, h.1]
  K_one := fun h u hu => by
    rw [h.2] at hu
    simp only [nums, List.mem_map] at hu
    obtain ⟨q, _, rfl⟩ := hu
    rfl
  K_below := fun _ h => h
  K_of_M := fun h => h
  M_mono := fun _ h => h
  M_bound := fun h => h
  M_move := fun _ h => h
  M_lower := fun _ h => h
theorem opens_arr {P : Program} {W : World} {T e : TypeId} {k : IntKind} {n : Nat} (ht : P.underlying T = some (.array n e)) (he : P.underlying e = some (.int k)) (hc : P.cellsOf e = 1) (hT : P.cellsOf T = n) :
    Opens P W T (kArr k n) (fun xs => ∀ x ∈ xs, (Lit.int k x).wf = true) := by
  intro H enc base spare held fuel cs x h
  obtain ⟨xs, m, _, _, hl, hxl, hel⟩ := DataW.trod_array ht h
  obtain ⟨ys, hyl, hys⟩ := list_of (n := n) (p := fun i y => (Lit.int k y).wf = true ∧ cs[i]? = some (.int k y)) (fun i hi => by
    have h1 := hel i hi
    have hlt : i < xs.length := by omega
    rw [List.getElem?_eq_getElem hlt] at h1
    obtain ⟨y, h2, _, hw⟩ := DataW.trod_int he h1
    refine ⟨y, hw, ?_⟩
    rw [hc, Nat.mul_one] at h2
    have := congrArg (fun l => l[0]?) h2
    simp only [List.getElem?_take, List.getElem?_drop] at this
    simpa using this)
  refine ⟨ys, ⟨hyl, ?_⟩, fun y hy => ?_⟩
  · apply List.ext_getElem?
    intro i
    rcases Nat.lt_or_ge i n with hi | hi
    · have hyi : i < ys.length := by omega
      rw [(hys i _ (List.getElem?_eq_getElem hyi)).2]
      simp [nums, List.getElem?_eq_getElem hyi]
    · rw [List.getElem?_eq_none (by omega), List.getElem?_eq_none (by simp [nums]; omega)]
  · obtain ⟨i, hi, rfl⟩ := List.getElem_of_mem hy
    exact (hys i _ (List.getElem?_eq_getElem hi)).1
/-- A kind that says the same of another value. -/
theorem opens_map {α β : Type} {P : Program} {W : World} {T : TypeId} {d : Kd α} {d' : Kd β} {wf : α → Prop} {wf' : β → Prop} (h : Opens P W T d wf) (f : α → β) (hK : ∀ y cs, d.K W y cs → wf y → d'.K W (f y) cs ∧ wf' (f y)) : Opens P W T d' wf' := by
  intro H enc base spare held fuel cs x hx
  obtain ⟨y, hy, hw⟩ := h H enc base spare held fuel cs x hx
  exact ⟨f y, hK y cs hy hw⟩
/-- A slice argument, opened. -/
theorem arg_slice {α : Type} {H : Type} {enc : TypeId × Value → H} {P : Program} {W : World} {T e : TypeId} {d : Kd α} {wf : α → Prop} {base : Nat} {spare : Nat → Bool} {held : Bool} {a : Option Addr} {len cap : Nat} {dt : DataW H} {ps : List MemPlace}
    (ht : P.underlying T = some (.slice e)) (hc : P.cellsOf e = d.sz) (ho : Opens P W e d wf) (h : DataW.Trod enc P W base spare held T (.slice a len cap) dt ps) :
    ∃ xs : List α, len = xs.length ∧ xs.length ≤ cap ∧ d.C W a xs.length xs ∧ ∀ x ∈ xs, wf x := by
  obtain ⟨fuel, hf⟩ := h
  obtain ⟨xs, ⟨A, c, h1, h2, h3⟩, _, h4⟩ := opens_slice ht hc ho H enc base spare held fuel _ _ hf
  have h1' : Value.slice a len cap = .slice A xs.length c := by
    simp [Value.cells] at h1
    obtain ⟨rfl, rfl, rfl⟩ := h1
    rfl
  injection h1' with e1 e2 e3
  subst e1
  subst e3
  exact ⟨xs, e2, h2, h3, h4⟩
theorem i64_wf {n : Int} (h : (Lit.int .i64 n).wf = true) : -9223372036854775808 ≤ n ∧ n ≤ 9223372036854775807 := by
  have := (Lit.wf_int_iff .i64 n).mp h
  simpa [IntKind.min, IntKind.max, IntKind.signed, IntKind.bits] using this
theorem opens_any {α : Type} {P : Program} {W : World} {T : TypeId} {d : Kd α} {wf : α → Prop} (h : Opens P W T d wf) : Opens P W T d (fun _ => True) := fun H enc base spare held fuel cs x hx => by
  obtain ⟨y, hy, _⟩ := h H enc base spare held fuel cs x hx
  exact ⟨y, hy, trivial⟩
end Go.Proofs.Ytcflcmoblngfbaa.PK
