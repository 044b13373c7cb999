/- octets.Out by hand: what it holds, and what each of its methods makes of it. Conditions: what is written takes no more than 2^47 bytes.
Functions of the given program as plain Lean functions, and that the Go code answers what they tell (a law's row: the given statement, out of its plain form). Conditions: none beyond each theorem's own premises. Written by this repo's program wip/myprint.py. -/
import Derived.Test.YtnajmemcdipknaaLa
import Derived.Test.YtnajmemcdipknaaProg
import Derived.Below
import Derived.Deep.Draws
import Derived.Deep.AppendLies
import Derived.Maps.AppendAt
import Derived.OwnWalk
import Derived.Laws.BytesArg
import Derived.Laws.MakeOwn
import Derived.Laws.OwnMore
import Derived.Deep.OwnRows
import Derived.Tactics
import Derived.Lib.ConvBytes
import Derived.Laws.Slices
import Derived.WalkKit
import Derived.KernelRfl
import Derived.RowKit3
import Derived.Deep.LoopGhost
import Derived.Deep.QuietTactic
import Derived.BigQuiet
import Derived.WideLaws
import Derived.Deep.DeepCutAuto
import Derived.Deep.CutBlock
import Derived.Deep.RegionHeld3
import Derived.Laws.Rows
import Derived.Lib.AppendStr
import Derived.ArgAppend
import Derived.Laws.IdiomCopy
import Derived.OrdersHeld
import Derived.Laws.BitsLemmas
import Derived.RowKit
import Derived.Test.YtnajmemcdipknaaWWords
import Derived.Test.YtnajmemcdipknaaWLast
import Derived.Test.YtnajmemcdipknaaWTab
import Derived.Test.YtnajmemcdipknaaWFour
import Derived.Test.YtnajmemcdipknaaWQPut
import Derived.Test.YtnajmemcdipknaaWApart
import Derived.Test.YtnajmemcdipknaaWArr
import Derived.Test.YtnajmemcdipknaaWZeros
import Derived.Test.YtnajmemcdipknaaWFoot
import Derived.Test.YtnajmemcdipknaaWKept
import Derived.Test.YtnajmemcdipknaaWShare
import Derived.Test.YtnajmemcdipknaaWN
import Derived.Test.YtnajmemcdipknaaWFootNe
import Derived.Test.YtnajmemcdipknaaWAt
import Derived.Test.YtnajmemcdipknaaWEqStruct
import Derived.Test.YtnajmemcdipknaaWRepsOne
import Derived.Test.YtnajmemcdipknaaWInv
import Derived.Test.YtnajmemcdipknaaWInvWords
import Derived.Test.YtnajmemcdipknaaWGuard
import Derived.Test.YtnajmemcdipknaaWNEv
import Derived.Test.YtnajmemcdipknaaWMore
namespace Go.Proofs.Ytnajmemcdipknaa.PK
open Go.RowKit Go.Proofs.YtnajmemcdipknaaW.PrintWords Go.Proofs.YtnajmemcdipknaaW.PrintLast Go.Proofs.YtnajmemcdipknaaW.PrintMore
set_option linter.unusedVariables false
set_option linter.unusedSimpArgs false
set_option maxRecDepth 100000

section
variable {w w' : World} {g : Nat} {t : TypeId} {cs : Array Value}
def Blk (w : World) (g : Nat) (t : TypeId) (cs : Array Value) : Prop := w.heap[g]? = some (.cells cs t (0, 0))
theorem Blk.lt (h : Blk w g t cs) : g < w.heap.size := by
  rcases Nat.lt_or_ge g w.heap.size with hlt | hge
  · exact hlt
  · unfold Blk at h; rw [Array.getElem?_eq_none hge] at h; cases h
theorem Blk.cell (h : Blk w g t cs) (i : Nat) : w.cell? ⟨g, i, none⟩ = cs[i]? := cell_of_row w g i cs t (0, 0) h
theorem Blk.frozen (h : Blk w g t cs) (i : Nat) : w.frozen? ⟨g, i, none⟩ = false := by
  unfold Blk at h
  simp [World.frozen?, h]
theorem Blk.set_ (h : Blk w g t cs) (i : Nat) (u : Value) : Blk (w.setCell ⟨g, i, none⟩ u) g t (cs.setIfInBounds i u) := by
  unfold Blk at h ⊢
  simp [World.setCell, Array.getElem?_modify, h]
end
theorem own_blk_ne {w : World} {g : Nat} {t e : TypeId} {cs : Array Value} {base size n : Nat} {v : Value} {xs : List Value} (h : w.ownsRow base e size v n xs) (hg : Blk w g t cs) (hne : e ≠ t) : v.ownBlock ≠ some g := by
  rcases h.2 with ⟨rfl, _⟩ | ⟨g', cap, cur, rfl, _, hh, _⟩
  · simp [Value.ownBlock]
  · intro he
    have : g' = g := by simpa [Value.ownBlock] using he
    subst this
    unfold Blk at hg
    rw [hh] at hg
    injection hg with hg
    injection hg with _ ht
    exact hne ht

/-- An Out: its two fields lie at place o of block b, whose other cells are those of cs; its bytes are a row of the call's own from block base on. -/
def OutB (w : World) (b o : Nat) (T : TypeId) (cs : Array Value) (base : Nat) (l : List Int) (bad : Bool) : Prop :=
  ∃ v, o + 1 < cs.size ∧ Blk w b T ((cs.setIfInBounds o v).setIfInBounds (o + 1) (.bool bad)) ∧ w.ownsRow base 5 1 v l.length (nums .u8 l) ∧ T ≠ 5
/-- What writing to an Out leaves alone: all below base, and all blocks of another type than bytes, but the Out's own. -/
structure OutK (w w' : World) (b base : Nat) : Prop where
  os : w'.os = w.os
  tape : w'.tape = w.tape
  output : w'.output = w.output
  size : w.heap.size ≤ w'.heap.size
  old : ∀ k, k < base → k ≠ b → w'.heap[k]? = w.heap[k]?
  typ : ∀ k cs t fr, k ≠ b → t ≠ 5 → w.heap[k]? = some (.cells cs t fr) → w'.heap[k]? = w.heap[k]?
theorem OutK.refl (w : World) (b base : Nat) : OutK w w b base := ⟨rfl, rfl, rfl, Nat.le_refl _, fun _ _ _ => rfl, fun _ _ _ _ _ _ _ => rfl⟩
theorem OutK.trans {w w1 w2 : World} {b base : Nat} (h : OutK w w1 b base) (k : OutK w1 w2 b base) : OutK w w2 b base :=
  ⟨k.os.trans h.os, k.tape.trans h.tape, k.output.trans h.output, Nat.le_trans h.size k.size, fun i hi hb => (k.old i hi hb).trans (h.old i hi hb),
    fun i cs t fr hb ht hi => by have e := h.typ i cs t fr hb ht hi; exact (k.typ i cs t fr hb ht (e.trans hi)).trans e⟩
theorem lt_of_some {w : World} {i : Nat} {x : Obj} (h : w.heap[i]? = some x) : i < w.heap.size := (Array.getElem?_eq_some_iff.1 h).1
theorem OutK.of_below {w w1 : World} {b base : Nat} (h : Below w.heap.size w w1) (hb : base ≤ w.heap.size) : OutK w w1 b base :=
  ⟨h.os, h.tape, h.output, h.size, fun i hi _ => h.block i (by omega), fun i cs t fr _ _ hi => h.block i (lt_of_some hi)⟩
theorem OutK.below {w w1 : World} {b base B : Nat} (h : OutK w w1 b base) (h1 : B ≤ base) (h2 : B ≤ b) : Below B w w1 :=
  ⟨h.os, h.tape, h.output, h.size, fun i hi => h.old i (by omega) (by omega)⟩
theorem OutB.below {w w1 : World} {b o : Nat} {T : TypeId} {cs : Array Value} {base : Nat} {l : List Int} {bad : Bool} (h : OutB w b o T cs base l bad) (hb : Below w.heap.size w w1) : OutB w1 b o T cs base l bad := by
  obtain ⟨v, h1, h2, h3, h4⟩ := h
  exact ⟨v, h1, (hb.block b h2.lt).trans h2, pw_own_below h3 hb, h4⟩
theorem OutB.drewN {w : World} {b o : Nat} {T : TypeId} {cs : Array Value} {base : Nat} {l : List Int} {bad : Bool} (h : OutB w b o T cs base l bad) (n : Nat) : OutB (w.drewN n) b o T cs base l bad := h
theorem OutB.lt {w : World} {b o : Nat} {T : TypeId} {cs : Array Value} {base : Nat} {l : List Int} {bad : Bool} (h : OutB w b o T cs base l bad) : b < w.heap.size := by
  obtain ⟨v, _, h2, _⟩ := h
  exact h2.lt
/-- A new one. -/
theorem OutB.new (w : World) (b : Nat) (T : TypeId) (base : Nat) (hT : T ≠ 5) (h : Blk w b T #[.slice none 0 0, .bool false]) : OutB w b 0 T #[.bool false, .bool false] base [] false :=
  ⟨.slice none 0 0, by decide, h, own_nil _ _ _ _, hT⟩

theorem set_twice (cs : Array Value) (o : Nat) (v v1 : Value) (x y : Value) :
    (((((cs.setIfInBounds o v).setIfInBounds (o + 1) x).setIfInBounds o v1).setIfInBounds (o + 1) y)) = (cs.setIfInBounds o v1).setIfInBounds (o + 1) y := by
  apply Array.ext_getElem?
  intro i
  simp only [Array.getElem?_setIfInBounds, Array.size_setIfInBounds]
  by_cases e1 : o + 1 = i
  · simp [e1]
  · by_cases e2 : o = i
    · subst e2; simp
    · simp [e1, e2]

theorem put_end {w w1 : World} {b o : Nat} {T : TypeId} {cs : Array Value} {base : Nat} {l l1 : List Int} {bad bd : Bool} {v v1 : Value} (hsz : o + 1 < cs.size) (hT : T ≠ 5)
    (hh : Blk w b T ((cs.setIfInBounds o v).setIfInBounds (o + 1) (.bool bad))) (hown : w.ownsRow base 5 1 v l.length (nums .u8 l)) (hx : w1.heap[b]? = w.heap[b]?) (hgr : w.grownBy w1 v.ownBlock)
    (ho : w1.ownsRow base 5 1 v1 l1.length (nums .u8 l1)) (hbl : Below base w w1) :
    OutB ((w1.setCell ⟨b, o, none⟩ v1).setCell ⟨b, o + 1, none⟩ (.bool bd)) b o T cs base l1 bd ∧ OutK w ((w1.setCell ⟨b, o, none⟩ v1).setCell ⟨b, o + 1, none⟩ (.bool bd)) b base := by
  have h1 : Blk w1 b T ((cs.setIfInBounds o v).setIfInBounds (o + 1) (.bool bad)) := hx.trans hh
  have h2 := (h1.set_ o v1).set_ (o + 1) (.bool bd)
  rw [set_twice] at h2
  have hne := own_blk_ne ho h1 (fun e => hT e.symm)
  have far : ∀ (W : World) (i : Nat) (u : Value) (k : Nat), k ≠ b → (W.setCell ⟨b, i, none⟩ u).heap[k]? = W.heap[k]? := fun W i u k hk => Below.heap_setCell W ⟨b, i, none⟩ u k hk
  refine ⟨⟨v1, hsz, h2, own_move ho (fun k hk => ?_), hT⟩, ?_⟩
  · have : k ≠ b := fun e => hne (by rw [← e]; exact hk)
    rw [far _ _ _ _ this, far _ _ _ _ this]
  · refine ⟨hbl.os, hbl.tape, hbl.output, by simpa [World.setCell] using hbl.size, fun k hk hb => ?_, fun k cs' t fr hb ht hk => ?_⟩
    · rw [far _ _ _ _ hb, far _ _ _ _ hb, hbl.block k hk]
    · rw [far _ _ _ _ hb, far _ _ _ _ hb]
      refine hgr.block k (lt_of_some hk) (fun e => ?_)
      rcases hown.2 with ⟨rfl, _⟩ | ⟨g', cap, cur, rfl, _, hh', _⟩
      · simp [Value.ownBlock] at e
      · have : k = g' := by simpa [Value.ownBlock] using e
        subst this
        rw [hk] at hh'
        injection hh' with hh'
        injection hh' with _ ht'
        exact ht ht'
set_option maxHeartbeats 1600000 in
theorem out_put (b o : Nat) (T : TypeId) (cs : Array Value) (base : Nat) (l : List Int) (bad : Bool) (s : ByteArray) (ok : Bool) (w : World) (hI : OutB w b o T cs base l bad) (hb : base ≤ w.heap.size) (hl : l.length + s.size ≤ 140737488355328) :
    Calls Try.prog 91 #[.pointer (some ⟨b, o, none⟩), .string s, .bool ok] w fun e w' => e = .returned (.tuple #[]) ∧ OutB w' b o T cs base (l ++ bytesOf s) (bad || !ok) ∧ OutK w w' b base := by
  obtain ⟨v, hsz, hh, hown, hT⟩ := hI
  have hne := own_blk_ne hown hh (fun e => hT e.symm)
  obtain ⟨A, c, rfl⟩ := own_slice hown
  have h0 : w.cell? ⟨b, o, none⟩ = some (.slice A l.length c) := by
    rw [hh.cell]; simp only [Array.getElem?_setIfInBounds]; rw [if_neg (by omega)]; simp only [if_true]; rw [if_pos (by omega)]
  have h1 : w.cell? ⟨b, o + 1, none⟩ = some (.bool bad) := by
    rw [hh.cell]; simp only [Array.getElem?_setIfInBounds]; simp; omega
  have f0 := hh.frozen o
  have f1 := hh.frozen (o + 1)
  have HH := Aside0.mk hh
  have HO := Aside0.mk hown
  clear hh hown
  cases bad
  all_goals
    go_enter Try.func91, Try.ntmps91
    go_wp2_with (at_builtin; refine print_append_str (w0 := w) base rfl (.tmp 12) (.tmp 13) 62 9 5 rfl Try.underlying62 Try.underlying9 info5q _ l s rfl rfl HO.out (Below.refl _ _) hb hl ?_; intro v1 w1 ho hbl hgr; have hx := hgr.block b HH.out.lt (fun e => hne e.symm); have k0 := (World.cell?_of_block (a := ⟨b, o, none⟩) hx).trans h0; have k1 := (World.cell?_of_block (a := ⟨b, o + 1, none⟩) hx).trans h1; have e0 := (World.frozen?_of_block (a := ⟨b, o, none⟩) hx).trans f0; have e1 := (World.frozen?_of_block (a := ⟨b, o + 1, none⟩) hx).trans f1; obtain ⟨A1, c1, rfl⟩ := own_slice ho; have HX := Aside0.mk hx; have HG := Aside0.mk hgr; have HO1 := Aside0.mk ho; have HBL := Aside0.mk hbl; clear hx hgr ho hbl)
    go_end0
    refine ⟨rfl, ?_⟩
    exact put_end hsz hT HH.out HO.out HX.out HG.out (by have h := HO1.out; rwa [show Value.slice A1 (l ++ bytesOf s).length c1 = Value.slice A1 (l.length + (bytesOf s).length) c1 from by rw [List.length_append]] at h) HBL.out
/-- The outcome of a writing method. -/
def Wrote (b o : Nat) (T : TypeId) (cs : Array Value) (base : Nat) (w : World) (l1 : List Int) (bd : Bool) (e : Ending) (w' : World) : Prop :=
  e = .returned (.tuple #[]) ∧ OutB w' b o T cs base l1 bd ∧ OutK w w' b base
theorem putL_range (n : Int) : ∀ x ∈ putL n, 0 ≤ x ∧ x ≤ 255 := by
  unfold putL
  have h1 := nb_le n
  have h2 := nb_le (-n)
  split
  · simp
  · split
    · intro x hx
      simp only [List.mem_cons] at hx
      rcases hx with rfl | hx
      · omega
      · exact beL_range _ _ x hx
    · intro x hx
      simp only [List.mem_cons] at hx
      rcases hx with rfl | hx
      · omega
      · exact beL_range _ _ x hx
theorem putL_len (n : Int) : (putL n).length ≤ 8 := by
  unfold putL
  have h1 := nb_le n
  have h2 := nb_le (-n)
  split
  · simp
  · split <;> simp [beL_length] <;> omega
theorem bytes_put (n : Int) : bytesOf (strOfNums (putL n)) = putL n := strOf_bytes _ (putL_range n)
theorem size_put (n : Int) : (strOfNums (putL n)).size = (putL n).length := strOfNums_size _
/-- Has a number bytes? -/
def fitsN (n : Int) : Bool := decide (-9007199254740992 ≤ n ∧ n ≤ 9007199254740992)
theorem put_empty (n : Int) : (!(strOfNums (putL n)).toList.isEmpty) = fitsN n := by
  have e : (strOfNums (putL n)).toList = [] ↔ putL n = [] := by
    constructor
    · intro h
      have := toList_length (strOfNums (putL n))
      rw [h, size_put] at this
      exact List.eq_nil_of_length_eq_zero this.symm
    · intro h; rw [h, ByteArray.toList_eq]; rfl
  have e2 : putL n = [] ↔ ¬ (-9007199254740992 ≤ n ∧ n ≤ 9007199254740992) := by
    unfold putL
    split
    · simp; omega
    · split <;> simp <;> omega
  unfold fitsN
  by_cases h : -9007199254740992 ≤ n ∧ n ≤ 9007199254740992
  · have : ¬ (strOfNums (putL n)).toList = [] := fun hh => (e2.mp (e.mp hh)) h
    simp [this, h]
  · have : (strOfNums (putL n)).toList = [] := e.mpr (e2.mpr h)
    rw [this]; simp; omega
section
variable (b o : Nat) (T : TypeId) (cs : Array Value) (base : Nat) (l : List Int) (bad : Bool) (w : World) (hI : OutB w b o T cs base l bad) (hb : base ≤ w.heap.size)
include hI hb
theorem out_put' (s : ByteArray) (ok : Bool) (hl : l.length + s.size ≤ 140737488355328) :
    Calls Try.prog 91 #[.pointer (some ⟨b, o, none⟩), .string s, .bool ok] w (Wrote b o T cs base w (l ++ bytesOf s) (bad || !ok)) := out_put b o T cs base l bad s ok w hI hb hl
set_option maxHeartbeats 800000 in
theorem out_int (n : Int) (hl : l.length + 8 ≤ 140737488355328) :
    Calls Try.prog 40 #[.pointer (some ⟨b, o, none⟩), .int .i64 n] w (Wrote b o T cs base w (l ++ putL n) (bad || !fitsN n)) := by
  have HI := Aside0.mk hI
  have hpe := put_empty n
  have hlen := putL_len n
  obtain ⟨S, hS⟩ : ∃ S, S = strOfNums (putL n) := ⟨_, rfl⟩
  rw [← hS] at hpe
  have HS := Aside0.mk hS
  clear hS hI
  go_enter Try.func40, Try.ntmps40
  go_wp2_with fail
  refine (octets_Put.calls n S _ (by rw [HS.out]; rfl)).mono ?_
  rintro e w1 ⟨rfl, hbl⟩
  have HI1 := Aside0.mk (HI.out.below hbl)
  have HB := Aside0.mk hbl
  have HZ := Aside0.mk hbl.size
  clear hbl
  go_wp2_with fail
  refine (out_put' b o T cs base l bad w1 HI1.out (by have := HZ.out; omega) S (fitsN n) (by rw [HS.out, size_put]; omega)).mono ?_
  rintro e w2 ⟨rfl, hI2, hk2⟩
  have HI2 := Aside0.mk hI2
  have HK2 := Aside0.mk ((OutK.of_below HB.out hb).trans hk2)
  clear hI2 hk2
  go_wp2_with fail
  go_end0
  exact ⟨rfl, by have h := HI2.out; rwa [HS.out, bytes_put] at h, HK2.out⟩
set_option maxHeartbeats 800000 in
theorem out_count (n : Int) (hl : l.length + 8 ≤ 140737488355328) :
    Calls Try.prog 92 #[.pointer (some ⟨b, o, none⟩), .int .i64 n] w (Wrote b o T cs base w (l ++ putL n) (bad || !decide (n ≤ 65536))) := by
  have HI := Aside0.mk hI
  have hlen := putL_len n
  obtain ⟨S, hS⟩ : ∃ S, S = strOfNums (putL n) := ⟨_, rfl⟩
  have HS := Aside0.mk hS
  clear hS hI
  go_enter Try.func92, Try.ntmps92
  go_wp2_with fail
  refine (octets_Put.calls n S _ (by rw [HS.out]; rfl)).mono ?_
  rintro e w1 ⟨rfl, hbl⟩
  have HI1 := Aside0.mk (HI.out.below hbl)
  have HB := Aside0.mk hbl
  have HZ := Aside0.mk hbl.size
  clear hbl
  go_wp2_with fail
  refine (out_put' b o T cs base l bad w1 HI1.out (by have := HZ.out; omega) S (decide (n ≤ 65536)) (by rw [HS.out, size_put]; omega)).mono ?_
  rintro e w2 ⟨rfl, hI2, hk2⟩
  have HI2 := Aside0.mk hI2
  have HK2 := Aside0.mk ((OutK.of_below HB.out hb).trans hk2)
  clear hI2 hk2
  go_wp2_with fail
  go_end0
  exact ⟨rfl, by have h := HI2.out; rwa [HS.out, bytes_put] at h, HK2.out⟩
/-- The bytes of a text, behind its length; none of one that is too long. -/
def textL (s : ByteArray) : List Int := if 65536 < s.size then [] else putL s.size ++ bytesOf s
set_option maxHeartbeats 800000 in
theorem out_text (s : ByteArray) (hl : l.length + 65544 ≤ 140737488355328) :
    Calls Try.prog 41 #[.pointer (some ⟨b, o, none⟩), .string s] w (Wrote b o T cs base w (l ++ textL s) (bad || decide (65536 < s.size))) := by
  have HI := Aside0.mk hI
  by_cases hs : 65536 < s.size
  · have hs' : decide ((65536 : Int) < (s.size : Int)) = true := by simp; omega
    have hs2 : decide (65536 < s.size) = true := by simp; omega
    have ht : textL s = [] := by unfold textL; rw [if_pos hs]
    rw [ht, hs2]
    clear ht hI
    go_enter Try.func41, Try.ntmps41
    go_wp2_with fail
    refine (out_put' b o T cs base l bad w HI.out hb ⟨#[]⟩ false (by show l.length + 0 ≤ _; omega)).mono ?_
    rintro e w2 ⟨rfl, hI2, hk2⟩
    have HI2 := Aside0.mk hI2
    have HK2 := Aside0.mk hk2
    clear hI2 hk2
    go_wp2_with fail
    refine bodyPost_ret (results_none rfl _ _ _) rfl ?_
    exact ⟨rfl, by have h := HI2.out; simpa [bytesOf] using h, HK2.out⟩
  · have hs' : decide ((65536 : Int) < (s.size : Int)) = false := by simp; omega
    have hs2 : decide (65536 < s.size) = false := by simp; omega
    have ht : textL s = putL s.size ++ bytesOf s := by unfold textL; rw [if_neg hs]
    rw [ht, hs2]
    have hlen := putL_len s.size
    obtain ⟨S, hS⟩ : ∃ S, S = strOfNums (putL s.size) := ⟨_, rfl⟩
    have HS := Aside0.mk hS
    clear ht hI hS
    go_enter Try.func41, Try.ntmps41
    go_wp2_with fail
    refine (octets_Put.calls s.size S _ (by rw [HS.out]; rfl)).mono ?_
    rintro e w1 ⟨rfl, hbl⟩
    have HI1 := Aside0.mk (HI.out.below hbl)
    have HB := Aside0.mk hbl
    have HZ := Aside0.mk hbl.size
    clear hbl
    go_wp2_with fail
    refine (out_put' b o T cs base l bad w1 HI1.out (by have := HZ.out; omega) S true (by rw [HS.out, size_put]; omega)).mono ?_
    rintro e w2 ⟨rfl, hI2, hk2⟩
    have HI2 := Aside0.mk hI2
    have HZ2 := Aside0.mk (Nat.le_trans HZ.out hk2.size)
    have HK2 := Aside0.mk ((OutK.of_below HB.out hb).trans hk2)
    clear hI2 hk2
    go_wp2_with fail
    refine (out_put' b o T cs base _ _ w2 HI2.out (by have := HZ2.out; omega) s true (by rw [HS.out, bytes_put, List.length_append]; omega)).mono ?_
    rintro e w3 ⟨rfl, hI3, hk3⟩
    have HI3 := Aside0.mk hI3
    have HK3 := Aside0.mk (HK2.out.trans hk3)
    clear hI3 hk3
    go_wp2_with fail
    go_end0
    exact ⟨rfl, by have h := HI3.out; rw [HS.out, bytes_put] at h; simpa using h, HK3.out⟩
/-- What Bytes tells. -/
def bytesR (l : List Int) (bad : Bool) : Value := .tuple #[.string (if bad then ⟨#[]⟩ else strOfNums l), .bool !bad]
omit hb in
set_option maxHeartbeats 800000 in
theorem out_bytes :
    Calls Try.prog 43 #[.pointer (some ⟨b, o, none⟩)] w fun e w' => e = .returned (bytesR l bad) ∧ w = w' := by
  obtain ⟨v, hsz, hh, hown, hT⟩ := hI
  have h0 : w.cell? ⟨b, o, none⟩ = some v := by
    rw [hh.cell]; simp only [Array.getElem?_setIfInBounds]; rw [if_neg (by omega)]; simp only [if_true]; rw [if_pos (by omega)]
  have h1 : w.cell? ⟨b, o + 1, none⟩ = some (.bool bad) := by
    rw [hh.cell]; simp only [Array.getElem?_setIfInBounds]; simp; omega
  have hcv := own_string (P := Try.prog) Try.underlying62 Try.underlying5 Try.underlying9 hown
  clear hh hown
  cases bad
  all_goals
    go_enter Try.func43, Try.ntmps43
    go_wp2
    go_ret2
    exact ⟨rfl, rfl⟩
end
end Go.Proofs.Ytnajmemcdipknaa.PK
namespace Go.Proofs.Ytnajmemcdipknaa.PK
open Go.RowKit Go.Proofs.YtnajmemcdipknaaW.PrintWords Go.Proofs.YtnajmemcdipknaaW.PrintLast Go.Proofs.YtnajmemcdipknaaW.PrintMore
attribute [local go_sem] max2_int min2_int max_two min_two max_three min_three max_four min_four   -- for this text's walks alone
set_option linter.unusedVariables false
set_option linter.unusedSimpArgs false



def errW : Option Int → Value
  | none => .nilIface
  | some c => .iface 0 (.int .i64 c)
theorem errW_none : errW none = .nilIface := rfl
theorem errW_some (c : Int) : errW (some c) = .iface 0 (.int .i64 c) := rfl

theorem info9 : (Try.prog.info? 9).map (fun i => (i.zero, i.size, i.bytes)) = some (some (.string ⟨#[]⟩), 1, 16) := by kernel_rfl
-- the values' own types

end Go.Proofs.Ytnajmemcdipknaa.PK
