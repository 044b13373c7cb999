/- CommandReplies: for every two raw replies, the program's encoding of a reply is the document's, Same tells just what the document's comparison tells, and what is decoded from the encoding is the same reply, or the document's error. Condition: none. -/
import Derived.Test.YtnajmemcdipknaaRows
import Derived.Test.YtnajmemcdipknaaLj
import Derived.Test.YtnajmemcdipknaaLd
import Derived.WalkKit
import Derived.ProofKit
import Derived.OpenShut
import Derived.ShutString
import Derived.ChangeOld
import Derived.Below
import Derived.Carry
import Derived.SizedLaws
namespace Go.Proofs.Ytnajmemcdipknaa.commandReplies
open Go.ChangeShapes Go.WideShapes Go.ChangeAt Go.RowKit
open Go.ChangeMaps (open_string shut_string)
set_option linter.unusedVariables false
theorem own : ownKnob Try.prog.godebug = none := by kernel_rfl
theorem laidOut : laidOutB Try.prog = true := by kernel_rfl
set_option maxRecDepth 100000 in
theorem lifted (os : Os) (started : os.Started) (H : Type) (enc : TypeId × Value → H) :
    ReturnsInHanded {} Try.checked os 9 .any (Rows.commandRepliesSpec.pre6 enc Try.prog Try.f9 Rows.commandRepliesRow.domain false) (Rows.commandRepliesSpec.post enc Try.prog Try.f9 false true false false) := by
  refine returnsInHanded_of_change_sized (C := Try.checked) own started (by kernel_rfl) Try.func9
    (ChangeSpec.witness6 (enc := enc) (C := Try.checked) false ⟨#[], #[.agg #[.int .i64 0, .int .i64 0, .int .i64 0, .int .i64 0, .string ByteArray.empty, .slice none 0 0, .slice none 0 0], .agg #[.int .i64 0, .int .i64 0, .int .i64 0, .int .i64 0, .string ByteArray.empty, .slice none 0 0, .slice none 0 0]], []⟩ 8 (by kernel_rfl) (by kernel_rfl) (by kernel_rfl) (by kernel_rfl)) ?_
  intro W base args ds gs before hval0 hW hcnd hsz0 _
  have hsz : (DataW.weightsEach Try.prog (Try.f9.params.toList ++ Rows.commandRepliesSpec.plain.varTypes Try.prog) (ds ++ gs)).all (· ≤ reachBytes) = true := hsz0
  have hval : ∀ (j : Nat) t v, Try.f9.params[j]? = some t → args[j]? = some v → Value.okWide Try.prog W .any base t v := hval0
  have hW' := hW
  obtain ⟨p, q, hA0, hV, rfl, hfz, hnd⟩ := hW
  have hA : DataW.TrodAll enc Try.prog W 0 (fun _ => true) true Try.f9.params.toList args.toList ds p := hA0
  rw [Try.params9] at hA hval hsz
  obtain ⟨v0, vs0, d0, ds0, p0, q0, hargs, rfl, rfl, h0, r0⟩ := trodAll_cons hA
  obtain ⟨v1, vs1, d1, ds1, p1, q1, rfl, rfl, rfl, h1, r1⟩ := trodAll_cons r0
  obtain ⟨rfl, rfl, rfl⟩ := trodAll_nil r1
  obtain rfl : args = #[v0, v1] := by cases args; simp_all
  obtain ⟨rfl, rfl⟩ := trodVars_none hV
  obtain ⟨cs0, rfl, hz0⟩ := okWide_struct Try.underlying81 (hval 0 81 v0 rfl rfl)
  have k0 := h0
  have lt0 : ∀ x ∈ p0, x.block < W.heap.size := by obtain ⟨m, hm⟩ := k0; exact DataW.trod_lt m _ _ _ hm
  obtain ⟨code0, line0, col0, cnt0, tx0, A0, cap0, ts0, U0, capu0, us0, rfl, zA0, hca0, hU0, hcu0, hx0, hs0, hus0, n1_0, n2_0, n3_0, n4_0⟩ := PK.arg_ans h0
  obtain ⟨cs1, rfl, hz1⟩ := okWide_struct Try.underlying81 (hval 1 81 v1 rfl rfl)
  have k1 := h1
  have lt1 : ∀ x ∈ p1, x.block < W.heap.size := by obtain ⟨m, hm⟩ := k1; exact DataW.trod_lt m _ _ _ hm
  obtain ⟨code1, line1, col1, cnt1, tx1, A1, cap1, ts1, U1, capu1, us1, rfl, zA1, hca1, hU1, hcu1, hx1, hs1, hus1, n1_1, n2_1, n3_1, n4_1⟩ := PK.arg_ans h1
  clear hA0 hval0 hsz0 hsz
  refine (PK.replies21_calls code0 line0 col0 cnt0 tx0 A0 cap0 ts0 U0 capu0 us0 code1 line1 col1 cnt1 tx1 A1 cap1 ts1 U1 capu1 us1 W zA0 hca0 hU0 hx0 hs0 hus0 ⟨n1_0, n2_0, n3_0, n4_0⟩ zA1 hca1 hU1 hx1 hs1 hus1 ⟨n1_1, n2_1, n3_1, n4_1⟩).mono fun e W' ⟨he, bel⟩ => ?_
  subst he
  exact ⟨_, rfl, _, _, _, [], _, [], hW', trodAll_mk1 (shut_bool Try.underlying4 _), (trodAll_cons_mk (Below.trod laidOut (by kernel_rfl) (of_decide_eq_true (by kernel_rfl)) k0 bel lt0) (trodAll_cons_mk (Below.trod laidOut (by kernel_rfl) (of_decide_eq_true (by kernel_rfl)) k1 bel lt1) trodAll_mk0)), rfl, bel.frame _, fun h => by cases h⟩
theorem over : Rows.commandRepliesRow.holds Try.pinned (OpenSpec.ofChange Rows.commandRepliesSpec) :=
  OpenClaim.holds_of_wide 9 Try.f9 rfl rfl rfl rfl rfl rfl rfl ⟨rfl, rfl, rfl, rfl, rfl⟩ rfl rfl rfl rfl rfl (by kernel_rfl) Try.func9 (by kernel_rfl)
    (of_decide_eq_true (by kernel_rfl)) (by unfold Func.isWrapper; first | (rw [if_pos (by decide +kernel)]; kernel_rfl) | (rw [if_neg (by decide +kernel)]; exact ⟨rfl, rfl⟩))
    (fun os started H enc _ => lifted os started H enc)
theorem proved : Rows.CommandRepliesSaid := over
#print axioms proved
end Go.Proofs.Ytnajmemcdipknaa.commandReplies
namespace Go.Proofs.Ytnajmemcdipknaa
/-- The row, under a short name, for the claim. -/
theorem commandReplies_holds : Rows.CommandRepliesSaid := commandReplies.proved
end Go.Proofs.Ytnajmemcdipknaa
