/- The row of the law FramesFind: for every input the law returns true, and its arguments read as before. -/
import Derived.Test.YtoikfhpbkpljlaaRows
import Derived.Test.YtoikfhpbkpljlaaAbF23
import Derived.Test.YtoikfhpbkpljlaaAbF15
import Derived.Test.YtoikfhpbkpljlaaAbR
namespace Go.Proofs.Ytoikfhpbkpljlaa.framesFindRow
open Go.ChangeShapes Go.WideShapes Go.ChangeAt Go.RowKit Go.Ab
set_option linter.unusedVariables false
set_option linter.unusedSimpArgs false
theorem own : ownKnob Try.prog.godebug = none := by kernel_rfl
theorem laidOut : laidOutB Try.prog = true := by kernel_rfl
theorem walk (S : St) (us : List Value) (hl : us.length = 3) (hu : ∀ (j : Nat) t u, [26, 3, 3][j]? = some t → us[j]? = some u → ArgL Try.prog S t u) : ACalls Try.prog 3 us S (fun r _ => r = .bool true) := by
  match us, hl with
  | [u0, u1, u2], _ =>
    have h0 := hu 0 _ _ rfl rfl
    have h1 := hu 1 _ _ rfl rfl
    have h2 := hu 2 _ _ rfl rfl
    obtain ⟨c, ps, qs, rs, a, b, d, rfl, hc, hf⟩ := arg26x h0
    obtain ⟨nd, rfl⟩ := arg3 h1
    obtain ⟨t, rfl, ht⟩ := arg3x h2
    exact (call3 hc hf nd t ht.2).mono fun r S' h => h.2
set_option maxRecDepth 100000 in
theorem lifted (os : Os) (started : os.Started) (H : Type) (enc : TypeId × Value → H) :
    ReturnsInHanded {} Try.checked os 3 .any (Rows.framesFindSpec.pre6 enc Try.prog Try.f3 Rows.framesFindRow.domain false) (Rows.framesFindSpec.post enc Try.prog Try.f3 false true false false) := by
  refine returnsInHanded_of_change_sized (C := Try.checked) own started (by kernel_rfl) Try.func3
    (ChangeSpec.witness6 (enc := enc) (C := Try.checked) false ⟨#[], #[.agg #[.int .i64 0, .int .i64 0, .int .i64 0, .int .i64 0, .int .i64 0, .int .i64 0, .int .i64 0, .int .i64 0, .slice none 0 0, .slice none 0 0, .slice none 0 0], .int .i64 0, .int .i64 0], []⟩ 8 (by kernel_rfl) (by kernel_rfl) (by kernel_rfl) (by kernel_rfl)) ?_
  intro W base args ds gs before hval0 hW hcnd hsz0 _
  have hsz : (DataW.weightsEach Try.prog (Try.f3.params.toList ++ Rows.framesFindSpec.plain.varTypes Try.prog) (ds ++ gs)).all (· ≤ reachBytes) = true := hsz0
  have hval : ∀ (j : Nat) t v, Try.f3.params[j]? = some t → args[j]? = some v → Value.okWide Try.prog W .any base t v := hval0
  have hW' := hW
  obtain ⟨p, q, hA0, hV, rfl, hfz, hnd⟩ := hW
  have hA : DataW.TrodAll enc Try.prog W 0 (fun _ => true) true Try.f3.params.toList args.toList ds p := hA0
  rw [Try.params3] at hA hval hsz
  obtain ⟨rfl, rfl⟩ := trodVars_none hV
  have hval2 : ∀ (j : Nat) t v, [26, 3, 3][j]? = some t → args[j]? = some v → Value.okWide Try.prog W .any base t v := fun j t v h1 h2 => hval j t v (by simpa using h1) h2
  have hsz2 : (DataW.weightsEach Try.prog [26, 3, 3] ds).all (· ≤ reachBytes) = true := by
    have e : Rows.framesFindSpec.plain.varTypes Try.prog = [] := by kernel_rfl
    rw [e] at hsz
    simpa using hsz
  have hc := calls_of_args (g := 3) (ts := [26, 3, 3]) (by kernel_rfl) hA hval2 hsz2 (fun S us hl hu => walk S us hl hu)
  obtain ⟨v0, vs0, d0, ds0, p0, q0, hargs, rfl, rfl, h0, r0⟩ := trodAll_cons hA
  obtain ⟨v1, vs1, d1, ds1, p1, q1, rfl, rfl, rfl, h1, r1⟩ := trodAll_cons r0
  obtain ⟨v2, vs2, d2, ds2, p2, q2, rfl, rfl, rfl, h2, r2⟩ := trodAll_cons r1
  obtain ⟨rfl, rfl, rfl⟩ := trodAll_nil r2
  obtain rfl : args = #[v0, v1, v2] := by cases args; simp_all
  have lt0 : ∀ x ∈ p0, x.block < W.heap.size := by obtain ⟨m, hm⟩ := h0; exact DataW.trod_lt m _ _ _ hm
  have lt1 : ∀ x ∈ p1, x.block < W.heap.size := by obtain ⟨m, hm⟩ := h1; exact DataW.trod_lt m _ _ _ hm
  have lt2 : ∀ x ∈ p2, x.block < W.heap.size := by obtain ⟨m, hm⟩ := h2; exact DataW.trod_lt m _ _ _ hm
  refine hc.mono fun e W' ⟨he, bel⟩ => ?_
  subst he
  exact ⟨_, rfl, _, _, _, [], _, [], hW', trodAll_mk1 (shut_bool Try.underlying4 _), (trodAll_cons_mk (Below.trod laidOut (by kernel_rfl) (of_decide_eq_true (by kernel_rfl)) h0 bel lt0) (trodAll_cons_mk (Below.trod laidOut (by kernel_rfl) (of_decide_eq_true (by kernel_rfl)) h1 bel lt1) (trodAll_cons_mk (Below.trod laidOut (by kernel_rfl) (of_decide_eq_true (by kernel_rfl)) h2 bel lt2) trodAll_mk0))), rfl, bel.frame _, fun h => by cases h⟩
theorem over : Rows.framesFindRow.holds Try.pinned (OpenSpec.ofChange Rows.framesFindSpec) :=
  OpenClaim.holds_of_wide 3 Try.f3 rfl rfl rfl rfl rfl rfl rfl ⟨rfl, rfl, rfl, rfl, rfl⟩ rfl rfl rfl rfl rfl (by kernel_rfl) Try.func3 (by kernel_rfl)
    (of_decide_eq_true (by kernel_rfl)) (by unfold Func.isWrapper; first | (rw [if_pos (by decide +kernel)]; kernel_rfl) | (rw [if_neg (by decide +kernel)]; exact ⟨rfl, rfl⟩))
    (fun os started H enc _ => lifted os started H enc)
end Go.Proofs.Ytoikfhpbkpljlaa.framesFindRow
namespace Go.Proofs.Ytoikfhpbkpljlaa
/-- The row, under a short name, for the claim. -/
theorem framesFind_holds : Rows.FramesFindSaid := framesFindRow.over
#print axioms framesFind_holds
end Go.Proofs.Ytoikfhpbkpljlaa
