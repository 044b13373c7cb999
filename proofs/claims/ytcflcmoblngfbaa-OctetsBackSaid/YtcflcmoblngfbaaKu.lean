/- Openers for structs: from the row's reading of a struct to what its fields' cells say. Condition: none. -/
import Derived.Test.YtcflcmoblngfbaaKw
import Derived.Test.YtcflcmoblngfbaaProg
namespace Go.Proofs.Ytcflcmoblngfbaa.PK
open Go.RowKit Go.Proofs.YtcflcmoblngfbaaW.PrintWords Go.Proofs.YtcflcmoblngfbaaW.PrintLast Go.Proofs.YtcflcmoblngfbaaW.PrintMore
open Go.ChangeShapes Go.WideShapes
set_option linter.unusedVariables false
set_option linter.unusedSimpArgs false
/-- The fields from field i on, which begins at cell o. -/
def OpensF {α : Type} (P : Program) (W : World) (fs : Array Field) (i o tot : Nat) (d : Kd α) (wf : α → Prop) : Prop :=
  ∀ (H : Type) (enc : TypeId × Value → H) (base : Nat) (spare : Nat → Bool) (held : Bool) (fuel : Nat) (cs : List Value), cs.length = tot →
    (∀ (j : Nat) (f : Field), fs[j]? = some f → ∃ x, DataW.trod enc P W base spare held fuel f.type ((cs.drop f.offset).take (P.cellsOf f.type)) = some x) → ∃ y, d.K W y (cs.drop o) ∧ wf y
theorem opensF_last {α : Type} {P : Program} {W : World} {fs : Array Field} {i o tot : Nat} {f : Field} {d : Kd α} {wf : α → Prop} (hf : fs[i]? = some f) (ho : f.offset = o) (h : Opens P W f.type d wf) (ht : o + P.cellsOf f.type = tot) : OpensF P W fs i o tot d wf := by
  intro H enc base spare held fuel cs hl hx
  obtain ⟨x, hx⟩ := hx i f hf
  obtain ⟨y, hy, hw⟩ := h H enc base spare held fuel _ x hx
  rw [ho, List.take_of_length_le (by rw [List.length_drop]; omega)] at hy
  exact ⟨y, hy, hw⟩
theorem opensF_more {α β : Type} {P : Program} {W : World} {fs : Array Field} {i o tot : Nat} {f : Field} {d : Kd α} {wf : α → Prop} {d' : Kd β} {wf' : β → Prop} (hf : fs[i]? = some f) (ho : f.offset = o) (h : Opens P W f.type d wf) (hn : OpensF P W fs (i + 1) (o + P.cellsOf f.type) tot d' wf') :
    OpensF P W fs i o tot (Kd.pair d d') (fun y => wf y.1 ∧ wf' y.2) := by
  intro H enc base spare held fuel cs hl hx
  obtain ⟨y', hy', hw'⟩ := hn H enc base spare held fuel cs hl hx
  obtain ⟨x, hx⟩ := hx i f hf
  obtain ⟨y, hy, hw⟩ := h H enc base spare held fuel _ x hx
  rw [ho] at hy
  refine ⟨(y, y'), ⟨_, _, ?_, hy, hy'⟩, hw, hw'⟩
  rw [← List.drop_drop]
  exact (List.take_append_drop _ _).symm
theorem opens_struct {α : Type} {P : Program} {W : World} {T : TypeId} {fs : Array Field} {d : Kd α} {wf : α → Prop} (ht : P.underlying T = some (.struct fs)) (h : OpensF P W fs 0 0 (P.cellsOf T) d wf) : Opens P W T d wf := by
  intro H enc base spare held fuel cs x hx
  obtain ⟨xs, n, _, _, hl, hxl, hf⟩ := DataW.trod_struct ht hx
  obtain ⟨y, hy, hw⟩ := h H enc base spare held n cs hl (fun j f hj => by
    have hj' : j < xs.length := by rw [hxl]; exact (Array.getElem?_eq_some_iff.1 hj).1
    exact ⟨_, (hf j f hj).trans (List.getElem?_eq_getElem hj')⟩)
  exact ⟨y, hy, hw⟩
/-- A struct argument, opened. -/
theorem arg_struct {α : Type} {H : Type} {enc : TypeId × Value → H} {P : Program} {W : World} {T : TypeId} {d : Kd α} {wf : α → Prop} {base : Nat} {spare : Nat → Bool} {held : Bool} {cs : Array Value} {dt : DataW H} {ps : List MemPlace}
    (ho : Opens P W T d wf) (h : DataW.Trod enc P W base spare held T (.agg cs) dt ps) : ∃ y, d.K W y cs.toList ∧ wf y := by
  obtain ⟨fuel, hf⟩ := h
  exact ho H enc base spare held fuel _ _ hf
/-- Kinds: an item; what its cells are. -/
def kItem : Kd (Int × Int × Bool × ByteArray × List Int × List ByteArray) := Kd.pair (Kd.int .i64) (Kd.pair (Kd.int .i64) (Kd.pair Kd.bool (Kd.pair Kd.string (Kd.pair (Kd.slice 3 (Kd.int .i64)) (Kd.slice 9 Kd.string)))))
theorem opens_item (W : World) : Opens Try.prog W 60 kItem (fun _ => True) :=
  opens_any (opens_struct Try.underlying60 (opensF_more (f := ⟨"Kind", 3, 0, false, "", "", 0⟩) rfl rfl (opens_int Try.underlying3)
    (opensF_more (f := ⟨"N", 3, 1, false, "", "", 8⟩) rfl (by kernel_rfl) (opens_int Try.underlying3)
    (opensF_more (f := ⟨"B", 4, 2, false, "", "", 16⟩) rfl (by kernel_rfl) (opens_bool Try.underlying4)
    (opensF_more (f := ⟨"T", 9, 3, false, "", "", 24⟩) rfl (by kernel_rfl) (opens_string Try.underlying9)
    (opensF_more (f := ⟨"Ns", 31, 4, false, "", "", 40⟩) rfl (by kernel_rfl) (opens_slice Try.underlying31 (by kernel_rfl) (opens_int Try.underlying3))
    (opensF_last (f := ⟨"Ts", 55, 5, false, "", "", 64⟩) rfl (by kernel_rfl) (opens_slice Try.underlying55 (by kernel_rfl) (opens_string Try.underlying9)) (by kernel_rfl))))))))
theorem item_cells {W : World} {x : Int × Int × Bool × ByteArray × List Int × List ByteArray} {cs : List Value} (h : kItem.K W x cs) : ∃ A4 c4 A5 c5, cs = [.int .i64 x.1, .int .i64 x.2.1, .bool x.2.2.1, .string x.2.2.2.1, .slice A4 x.2.2.2.2.1.length c4, .slice A5 x.2.2.2.2.2.length c5] ∧
    Kd.C (Kd.int .i64) W A4 x.2.2.2.2.1.length x.2.2.2.2.1 ∧ x.2.2.2.2.1.length ≤ c4 ∧ Kd.C Kd.string W A5 x.2.2.2.2.2.length x.2.2.2.2.2 ∧ x.2.2.2.2.2.length ≤ c5 := by
  obtain ⟨q0, r0, rfl, h0, q1, r1, rfl, h1, q2, r2, rfl, h2, q3, r3, rfl, h3, q4, r4, rfl, ⟨A4, c4, h4, l4, k4⟩, A5, c5, h5, l5, k5⟩ := h
  have h0 : q0 = [.int .i64 x.1] := h0
  have h1 : q1 = [.int .i64 x.2.1] := h1
  have h2 : q2 = [.bool x.2.2.1] := h2
  have h3 : q3 = [.string x.2.2.2.1] := h3
  subst h0; subst h1; subst h2; subst h3; subst h4; subst h5
  exact ⟨A4, c4, A5, c5, rfl, k4, l4, k5, l5⟩
theorem arg_item {H : Type} {enc : TypeId × Value → H} {W : World} {base : Nat} {spare : Nat → Bool} {held : Bool} {cs : Array Value} {dt : DataW H} {ps : List MemPlace}
    (h : DataW.Trod enc Try.prog W base spare held 60 (.agg cs) dt ps) : ∃ k n b t A4 c4 ns A5 c5 ts, cs = #[.int .i64 k, .int .i64 n, .bool b, .string t, .slice A4 (ns : List Int).length c4, .slice A5 (ts : List ByteArray).length c5] ∧
    Kd.C (Kd.int .i64) W A4 ns.length ns ∧ ns.length ≤ c4 ∧ Kd.C Kd.string W A5 ts.length ts ∧ ts.length ≤ c5 := by
  obtain ⟨y, hy, _⟩ := arg_struct (opens_item W) h
  obtain ⟨A4, c4, A5, c5, he, h1, h2, h3, h4⟩ := item_cells hy
  exact ⟨_, _, _, _, A4, c4, _, A5, c5, _, by rw [← Array.toList_inj, he], h1, h2, h3, h4⟩
end Go.Proofs.Ytcflcmoblngfbaa.PK
