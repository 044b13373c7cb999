/- Small contracts and words for the walks of the laws: Err, End; an element that is read; what stays where something else is written. Condition: none. -/
import Derived.Test.YtcflcmoblngfbaaKt
import Derived.Test.YtcflcmoblngfbaaKo
namespace Go.Proofs.Ytcflcmoblngfbaa.PK
open Go.RowKit Go.Proofs.YtcflcmoblngfbaaW.PrintWords Go.Proofs.YtcflcmoblngfbaaW.PrintLast Go.Proofs.YtcflcmoblngfbaaW.PrintMore
set_option linter.unusedVariables false
set_option linter.unusedSimpArgs false
theorem info3q : (Try.prog.info? 3).map (fun i => (i.zero, i.size, i.bytes)) = some (some (.int .i64 0), 1, 8) := by kernel_rfl
theorem block_of_add (a : Addr) (n : Nat) : (a.add n).block = a.block := by unfold Addr.add; split <;> rfl
theorem add_of_add (a : Addr) (i j : Nat) : (a.add i).add j = a.add (i + j) := by
  unfold Addr.add
  by_cases hi : i = 0 <;> by_cases hj : j = 0 <;> simp [hi, hj, Nat.add_assoc]
theorem mod5 (p : Int) : 0 ≤ Int.tmod (Int.tmod p 5 + 5) 5 ∧ Int.tmod (Int.tmod p 5 + 5) 5 ≤ 4 := by
  have h1 := Int.lt_tmod_of_pos p (show (0 : Int) < 5 by omega)
  have h2 := Int.tmod_lt_of_pos p (show (0 : Int) < 5 by omega)
  have e : Int.tmod (Int.tmod p 5 + 5) 5 = (Int.tmod p 5 + 5) % 5 := Int.tmod_eq_emod_of_nonneg (by omega)
  omega
theorem C_str {w : World} {A : Option Addr} {n : Nat} {xs : List ByteArray} (h : Kd.C Kd.string w A n xs) (t : Nat) (ht : t < xs.length) : ∃ ad, A = some ad ∧ w.cell? (ad.add t) = some (.string xs[t]) := by
  obtain ⟨hl, _, hc⟩ := h
  obtain ⟨ad, rfl, hcell⟩ := hc (by omega)
  obtain ⟨cs, _, hcs, hcc⟩ := hcell t xs[t] (List.getElem?_eq_getElem ht)
  have hcs : cs = [.string xs[t]] := hcs
  subst hcs
  refine ⟨ad, rfl, ?_⟩
  have := hcc 0 (.string xs[t]) rfl
  have e : t * Kd.string.sz + 0 = t := by show t * 1 + 0 = t; omega
  rwa [e] at this
theorem err_quiet (g : Nat) (f0 : ByteArray) (f1 : Int) (W : World) (h : W.heap[g]? = some (.cells #[.string f0, .int .i64 f1] 75 (0, 0))) :
    Calls Try.prog 18 #[.pointer (some ⟨g, 0, none⟩)] W fun e w' => e = .returned (.int .i64 f1) ∧ w' = W := by
  have h1 : W.cell? ⟨g, 1, none⟩ = some (.int .i64 f1) := (blk_cell h 1).trans rfl
  clear h
  go_enter Try.func18, Try.ntmps18
  go_wp2
  go_ret
  exact ⟨rfl, rfl⟩
theorem end_quiet (g : Nat) (f0 : ByteArray) (f1 : Int) (W : World) (h : W.heap[g]? = some (.cells #[.string f0, .int .i64 f1] 75 (0, 0))) :
    Calls Try.prog 29 #[.pointer (some ⟨g, 0, none⟩)] W fun e w' => e = .returned (.int .i64 (inEnd f0 f1)) ∧ w' = W := by
  have h0 : W.cell? ⟨g, 0, none⟩ = some (.string f0) := (blk_cell h 0).trans rfl
  have HH := Aside0.mk h
  clear h
  by_cases he : f1 = 0
  · subst he
    by_cases hs : f0.size = 0
    · have hl : (f0.toList == ([] : List UInt8)) = true := by rw [beq_iff_eq]; exact (toList_nil_iff f0).mpr hs
      have hl2 : f0.toList.isEmpty = true := by rw [(toList_nil_iff f0).mpr hs]; rfl
      have e : inEnd f0 0 = 0 := by unfold inEnd; rw [if_pos rfl, if_pos hs]
      rw [e]
      clear e
      go_enter Try.func29, Try.ntmps29
      go_wp2_with (go_at_call 18; refine (err_quiet g f0 0 _ HH.out).mono ?_; rintro e w' ⟨rfl, rfl⟩)
      go_ret
      exact ⟨rfl, rfl⟩
    · have hl : (f0.toList == ([] : List UInt8)) = false := by rw [beq_eq_false_iff_ne]; exact fun h => hs ((toList_nil_iff f0).mp h)
      have hl2 : f0.toList.isEmpty = false := by
        cases hc : f0.toList with
        | nil => exact absurd ((toList_nil_iff f0).mp hc) hs
        | cons a b => rfl
      have e : inEnd f0 0 = 4 := by unfold inEnd; rw [if_pos rfl, if_neg hs]
      rw [e]
      clear e
      go_enter Try.func29, Try.ntmps29
      go_wp2_with (go_at_call 18; refine (err_quiet g f0 0 _ HH.out).mono ?_; rintro e w' ⟨rfl, rfl⟩)
      go_ret
      exact ⟨rfl, rfl⟩
  · have he2 : (f1 != 0) = true := by rw [bne_iff_ne]; exact he
    have e : inEnd f0 f1 = f1 := by unfold inEnd; rw [if_neg he]
    rw [e]
    clear e
    go_enter Try.func29, Try.ntmps29
    go_wp2_with (go_at_call 18; refine (err_quiet g f0 f1 _ HH.out).mono ?_; rintro e w' ⟨rfl, rfl⟩)
    go_ret
    exact ⟨rfl, rfl⟩
theorem refEnd_quiet (g : Nat) (f0 : ByteArray) (f1 : Int) (W : World) (h : W.heap[g]? = some (.cells #[.string f0, .int .i64 f1] 46 (0, 0))) :
    Calls Try.prog 30 #[.pointer (some ⟨g, 0, none⟩)] W fun e w' => e = .returned (.int .i64 (inEnd f0 f1)) ∧ w' = W := by
  have h0 : W.cell? ⟨g, 0, none⟩ = some (.string f0) := (blk_cell h 0).trans rfl
  have h1 : W.cell? ⟨g, 1, none⟩ = some (.int .i64 f1) := (blk_cell h 1).trans rfl
  clear h
  by_cases he : f1 = 0
  · subst he
    by_cases hs : f0.size = 0
    · have hl : (f0.toList == ([] : List UInt8)) = true := by rw [beq_iff_eq]; exact (toList_nil_iff f0).mpr hs
      have hl2 : f0.toList.isEmpty = true := by rw [(toList_nil_iff f0).mpr hs]; rfl
      have e : inEnd f0 0 = 0 := by unfold inEnd; rw [if_pos rfl, if_pos hs]
      rw [e]
      clear e
      go_enter Try.func30, Try.ntmps30
      go_wp2
      repeat (go_quiet (fail); try go_wp2)
      go_ret
      exact ⟨rfl, rfl⟩
    · have hl : (f0.toList == ([] : List UInt8)) = false := by rw [beq_eq_false_iff_ne]; exact fun h => hs ((toList_nil_iff f0).mp h)
      have hl2 : f0.toList.isEmpty = false := by
        cases hc : f0.toList with
        | nil => exact absurd ((toList_nil_iff f0).mp hc) hs
        | cons a b => rfl
      have e : inEnd f0 0 = 4 := by unfold inEnd; rw [if_pos rfl, if_neg hs]
      rw [e]
      clear e
      go_enter Try.func30, Try.ntmps30
      go_wp2
      repeat (go_quiet (fail); try go_wp2)
      go_ret
      exact ⟨rfl, rfl⟩
  · have he2 : (f1 == 0) = false := by rw [beq_eq_false_iff_ne]; exact he
    have e : inEnd f0 f1 = f1 := by unfold inEnd; rw [if_neg he]
    rw [e]
    clear e
    go_enter Try.func30, Try.ntmps30
    go_wp2
    repeat (go_quiet (fail); try go_wp2)
    go_ret
    exact ⟨rfl, rfl⟩

theorem C_int {w : World} {k : IntKind} {A : Option Addr} {n : Nat} {xs : List Int} (h : Kd.C (Kd.int k) w A n xs) (t : Nat) (ht : t < xs.length) : ∃ ad, A = some ad ∧ w.cell? (ad.add t) = some (.int k xs[t]) := by
  obtain ⟨hl, _, hc⟩ := h
  obtain ⟨ad, rfl, hcell⟩ := hc (by omega)
  obtain ⟨cs, _, hcs, hcc⟩ := hcell t xs[t] (List.getElem?_eq_getElem ht)
  have hcs : cs = [.int k xs[t]] := hcs
  subst hcs
  refine ⟨ad, rfl, ?_⟩
  have := hcc 0 (.int k xs[t]) rfl
  have e : t * (Kd.int k).sz + 0 = t := by show t * 1 + 0 = t; omega
  rwa [e] at this
/-- An Out stays, where another row is written. -/
theorem OutB.grown {w w1 : World} {b o : Nat} {T : TypeId} {cs : Array Value} {base : Nat} {l : List Int} {bad : Bool} (h : OutB w b o T cs base l bad) {row : Option Nat} (hg : w.grownBy w1 row) {e : TypeId} {v : Value} {n bs sz : Nat} {ys : List Value}
    (hr : row = v.ownBlock) (ho : w.ownsRow bs e sz v n ys) (he : e ≠ 5) (heT : e ≠ T) : OutB w1 b o T cs base l bad := by
  obtain ⟨v0, h1, h2, h3, h4⟩ := h
  subst hr
  refine ⟨v0, h1, (hg.block b h2.lt (fun h => own_blk_ne ho h2 heT h.symm)).trans h2, own_move h3 (fun k hk => hg.block k (own_lt h3 k hk) (fun h => ?_)), h4⟩
  obtain ⟨c1, hc1⟩ := own_typed h3 k hk
  obtain ⟨c2, hc2⟩ := own_typed ho k h.symm
  rw [hc1] at hc2
  injection hc2 with hc2
  injection hc2 with _ hc2
  exact he hc2.symm
/-- A row of another type stays, where an Out is written. -/
theorem OutK.own {w w1 : World} {b base : Nat} (hk : OutK w w1 b base) {T : TypeId} {cs : Array Value} (hb : Blk w b T cs) {e : TypeId} {v : Value} {n bs sz : Nat} {ys : List Value} (ho : w.ownsRow bs e sz v n ys) (he : e ≠ 5) (heT : e ≠ T) : w1.ownsRow bs e sz v n ys := by
  refine own_move ho (fun k hk' => ?_)
  obtain ⟨c2, hc2⟩ := own_typed ho k hk'
  exact hk.typ k c2 e (0, 0) (fun h => own_blk_ne ho hb heT (by rw [← h]; exact hk')) he hc2
theorem OutB.blk {w : World} {b o : Nat} {T : TypeId} {cs : Array Value} {base : Nat} {l : List Int} {bad : Bool} (h : OutB w b o T cs base l bad) : ∃ cs', Blk w b T cs' := by
  obtain ⟨v0, h1, h2, _⟩ := h
  exact ⟨_, h2⟩
theorem own_len {w : World} {b e sz n n' : Nat} {v : Value} {xs : List Value} (h : w.ownsRow b e sz v n xs) (hn : n = n') : w.ownsRow b e sz v n' xs := hn ▸ h
end Go.Proofs.Ytcflcmoblngfbaa.PK
