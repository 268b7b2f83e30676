/- The row of the law TableBack: for every input the law returns true, and its arguments read as before. -/
import Derived.Test.YtpgiiidnimbdgaaRows
import Derived.Test.YtpgiiidnimbdgaaAbF39
import Derived.Test.YtpgiiidnimbdgaaAbR
namespace Go.Proofs.Ytpgiiidnimbdgaa.tableBackRow
open Go.ChangeShapes Go.WideShapes Go.ChangeAt Go.RowKit Go.Ab
set_option linter.unusedVariables false
set_option linter.unusedSimpArgs false
theorem own : ownKnob Try.prog.godebug = none := by kernel_rfl
theorem laidOut : laidOutB Try.prog = true := by kernel_rfl
theorem args_get {P : Program} {S : St} {g : FuncId} {Q : Value → St → Prop} {t0 : TypeId} (h : ∀ u0 : Value, ArgL P S t0 u0 → ACalls P g [u0] S Q) (us : List Value) (hl : us.length = [t0].length) (hu : ∀ (j : Nat) t u, [t0][j]? = some t → us[j]? = some u → ArgL P S t u) : ACalls P g us S Q := by
  match us, hl with
  | [u0], _ => exact h u0 (hu 0 _ _ rfl rfl)
set_option maxRecDepth 100000 in
theorem walk (S : St) (u0 : Value) (h0 : ArgL Try.prog S 56 u0) : ACalls Try.prog 9 [u0] S (fun r _ => r = .bool true) := by
  obtain ⟨c, vp, vq, vr, rfl, h1⟩ := arg56 h0
  exact (call9 h1).mono fun r S' h => h.2
set_option maxRecDepth 100000 in
theorem lifted (os : Os) (started : os.Started) (H : Type) (enc : TypeId × Value → H) :
    ReturnsInHanded {} Try.checked os 9 .any (Rows.tableBackSpec.pre6 enc Try.prog Try.f9 Rows.tableBackRow.domain false) (Rows.tableBackSpec.post enc Try.prog Try.f9 false true false false) := by
  refine returnsInHanded_of_change_sized (C := Try.checked) own started (by kernel_rfl) Try.func9
    (ChangeSpec.witness6 (enc := enc) (C := Try.checked) false ⟨#[], #[.agg #[.int .i64 0, .int .i64 0, .int .i64 0, .int .i64 0, .int .i64 0, .int .i64 0, .int .i64 0, .int .i64 0, .slice none 0 0, .slice none 0 0, .slice none 0 0]], []⟩ 8 (by kernel_rfl) (by kernel_rfl) (by kernel_rfl) (by kernel_rfl)) ?_
  intro W base args ds gs before hval0 hW hcnd hsz0 _
  have hsz : (DataW.weightsEach Try.prog (Try.f9.params.toList ++ Rows.tableBackSpec.plain.varTypes Try.prog) (ds ++ gs)).all (· ≤ reachBytes) = true := hsz0
  have hval : ∀ (j : Nat) t v, Try.f9.params[j]? = some t → args[j]? = some v → Value.okWide Try.prog W .any base t v := hval0
  have hW' := hW
  obtain ⟨p, q, hA0, hV, rfl, hfz, hnd⟩ := hW
  have hA : DataW.TrodAll enc Try.prog W 0 (fun _ => true) true Try.f9.params.toList args.toList ds p := hA0
  rw [Try.params9] at hA hval hsz
  obtain ⟨rfl, rfl⟩ := trodVars_none hV
  have hval2 : ∀ (j : Nat) t v, [56][j]? = some t → args[j]? = some v → Value.okWide Try.prog W .any base t v := fun j t v h1 h2 => hval j t v (by simpa using h1) h2
  have hsz2 : (DataW.weightsEach Try.prog [56] ds).all (· ≤ reachBytes) = true := by
    have e : Rows.tableBackSpec.plain.varTypes Try.prog = [] := by kernel_rfl
    rw [e] at hsz
    simpa using hsz
  have hc := calls_of_args (g := 9) (ts := [56]) (by kernel_rfl) hA hval2 hsz2 (fun S => args_get (walk S))
  obtain ⟨v0, vs0, d0, ds0, p0, q0, hargs, rfl, rfl, h0, r0⟩ := trodAll_cons hA
  obtain ⟨rfl, rfl, rfl⟩ := trodAll_nil r0
  obtain rfl : args = #[v0] := by cases args; simp_all
  have lt0 : ∀ x ∈ p0, x.block < W.heap.size := by obtain ⟨m, hm⟩ := h0; exact DataW.trod_lt m _ _ _ hm
  refine hc.mono fun e W' ⟨he, bel⟩ => ?_
  subst he
  exact ⟨_, rfl, _, _, _, [], _, [], hW', trodAll_mk1 (shut_bool Try.underlying4 _), (trodAll_cons_mk (Below.trod laidOut (by kernel_rfl) (of_decide_eq_true (by kernel_rfl)) h0 bel lt0) trodAll_mk0), rfl, bel.frame _, fun h => by cases h⟩
theorem over : Rows.tableBackRow.holds Try.pinned (OpenSpec.ofChange Rows.tableBackSpec) :=
  OpenClaim.holds_of_wide 9 Try.f9 rfl rfl rfl rfl rfl rfl rfl ⟨rfl, rfl, rfl, rfl, rfl⟩ rfl rfl rfl rfl rfl (by kernel_rfl) Try.func9 (by kernel_rfl)
    (of_decide_eq_true (by kernel_rfl)) (by unfold Func.isWrapper; first | (rw [if_pos (by decide +kernel)]; kernel_rfl) | (rw [if_neg (by decide +kernel)]; exact ⟨rfl, rfl⟩))
    (fun os started H enc _ => lifted os started H enc)
end Go.Proofs.Ytpgiiidnimbdgaa.tableBackRow
namespace Go.Proofs.Ytpgiiidnimbdgaa
/-- The row, under a short name, for the claim. -/
theorem tableBack_holds : Rows.TableBackSaid := tableBackRow.over
#print axioms tableBack_holds
end Go.Proofs.Ytpgiiidnimbdgaa
