/- The row of the law FrameCuts: for every input the law returns true, and its arguments read as before. -/
import Derived.Test.YtpgiiidnimbdgaaRows
import Derived.Test.YtpgiiidnimbdgaaAbF26
import Derived.Test.YtpgiiidnimbdgaaAbR
namespace Go.Proofs.Ytpgiiidnimbdgaa.frameCutsRow
open Go.ChangeShapes Go.WideShapes Go.ChangeAt Go.RowKit Go.Ab
set_option linter.unusedVariables false
set_option linter.unusedSimpArgs false
theorem own : ownKnob Try.prog.godebug = none := by kernel_rfl
theorem laidOut : laidOutB Try.prog = true := by kernel_rfl
theorem args_get {P : Program} {S : St} {g : FuncId} {Q : Value → St → Prop} {t0 t1 t2 : TypeId} (h : ∀ u0 u1 u2 : Value, ArgL P S t0 u0 → ArgL P S t1 u1 → ArgL P S t2 u2 → ACalls P g [u0, u1, u2] S Q) (us : List Value) (hl : us.length = [t0, t1, t2].length) (hu : ∀ (j : Nat) t u, [t0, t1, t2][j]? = some t → us[j]? = some u → ArgL P S t u) : ACalls P g us S Q := by
  match us, hl with
  | [u0, u1, u2], _ => exact h u0 u1 u2 (hu 0 _ _ rfl rfl) (hu 1 _ _ rfl rfl) (hu 2 _ _ rfl rfl)
set_option maxRecDepth 100000 in
theorem walk (S : St) (u0 u1 u2 : Value) (h0 : ArgL Try.prog S 34 u0) (h1 : ArgL Try.prog S 3 u1) (h2 : ArgL Try.prog S 22 u2) : ACalls Try.prog 6 [u0, u1, u2] S (fun r _ => r = .bool true) := by
  obtain ⟨f, vm, vr, rfl, g1, g2, g3⟩ := arg34 h0
  simp only [ArgL, Try.underlying3] at h1
  obtain ⟨n, h1, _⟩ := h1.int_ Try.underlying3
  cases h1
  obtain ⟨l, q1, q2, q3⟩ := arg22 h2
  exact (call6 g1 g2 g3 n q1 q2 q3).mono fun r S' h => h.2
set_option maxRecDepth 100000 in
theorem lifted (os : Os) (started : os.Started) (H : Type) (enc : TypeId × Value → H) :
    ReturnsInHanded {} Try.checked os 6 .any (Rows.frameCutsSpec.pre6 enc Try.prog Try.f6 Rows.frameCutsRow.domain false) (Rows.frameCutsSpec.post enc Try.prog Try.f6 false true false false) := by
  refine returnsInHanded_of_change_sized (C := Try.checked) own started (by kernel_rfl) Try.func6
    (ChangeSpec.witness6 (enc := enc) (C := Try.checked) false ⟨#[], #[.agg #[.int .u8 0, .int .u32 0, .int .u8 0, .slice none 0 0, .int .u8 0, .int .u8 0, .int .u16 0, .int .u16 0, .slice none 0 0], .int .i64 0, .slice none 0 0], []⟩ 8 (by kernel_rfl) (by kernel_rfl) (by kernel_rfl) (by kernel_rfl)) ?_
  intro W base args ds gs before hval0 hW hcnd hsz0 _
  have hsz : (DataW.weightsEach Try.prog (Try.f6.params.toList ++ Rows.frameCutsSpec.plain.varTypes Try.prog) (ds ++ gs)).all (· ≤ reachBytes) = true := hsz0
  have hval : ∀ (j : Nat) t v, Try.f6.params[j]? = some t → args[j]? = some v → Value.okWide Try.prog W .any base t v := hval0
  have hW' := hW
  obtain ⟨p, q, hA0, hV, rfl, hfz, hnd⟩ := hW
  have hA : DataW.TrodAll enc Try.prog W 0 (fun _ => true) true Try.f6.params.toList args.toList ds p := hA0
  rw [Try.params6] at hA hval hsz
  obtain ⟨rfl, rfl⟩ := trodVars_none hV
  have hval2 : ∀ (j : Nat) t v, [34, 3, 22][j]? = some t → args[j]? = some v → Value.okWide Try.prog W .any base t v := fun j t v h1 h2 => hval j t v (by simpa using h1) h2
  have hsz2 : (DataW.weightsEach Try.prog [34, 3, 22] ds).all (· ≤ reachBytes) = true := by
    have e : Rows.frameCutsSpec.plain.varTypes Try.prog = [] := by kernel_rfl
    rw [e] at hsz
    simpa using hsz
  have hc := calls_of_args (g := 6) (ts := [34, 3, 22]) (by kernel_rfl) hA hval2 hsz2 (fun S => args_get (walk S))
  obtain ⟨v0, vs0, d0, ds0, p0, q0, hargs, rfl, rfl, h0, r0⟩ := trodAll_cons hA
  obtain ⟨v1, vs1, d1, ds1, p1, q1, rfl, rfl, rfl, h1, r1⟩ := trodAll_cons r0
  obtain ⟨v2, vs2, d2, ds2, p2, q2, rfl, rfl, rfl, h2, r2⟩ := trodAll_cons r1
  obtain ⟨rfl, rfl, rfl⟩ := trodAll_nil r2
  obtain rfl : args = #[v0, v1, v2] := by cases args; simp_all
  have lt0 : ∀ x ∈ p0, x.block < W.heap.size := by obtain ⟨m, hm⟩ := h0; exact DataW.trod_lt m _ _ _ hm
  have lt1 : ∀ x ∈ p1, x.block < W.heap.size := by obtain ⟨m, hm⟩ := h1; exact DataW.trod_lt m _ _ _ hm
  have lt2 : ∀ x ∈ p2, x.block < W.heap.size := by obtain ⟨m, hm⟩ := h2; exact DataW.trod_lt m _ _ _ hm
  refine hc.mono fun e W' ⟨he, bel⟩ => ?_
  subst he
  exact ⟨_, rfl, _, _, _, [], _, [], hW', trodAll_mk1 (shut_bool Try.underlying4 _), (trodAll_cons_mk (Below.trod laidOut (by kernel_rfl) (of_decide_eq_true (by kernel_rfl)) h0 bel lt0) (trodAll_cons_mk (Below.trod laidOut (by kernel_rfl) (of_decide_eq_true (by kernel_rfl)) h1 bel lt1) (trodAll_cons_mk (Below.trod laidOut (by kernel_rfl) (of_decide_eq_true (by kernel_rfl)) h2 bel lt2) trodAll_mk0))), rfl, bel.frame _, fun h => by cases h⟩
theorem over : Rows.frameCutsRow.holds Try.pinned (OpenSpec.ofChange Rows.frameCutsSpec) :=
  OpenClaim.holds_of_wide 6 Try.f6 rfl rfl rfl rfl rfl rfl rfl ⟨rfl, rfl, rfl, rfl, rfl⟩ rfl rfl rfl rfl rfl (by kernel_rfl) Try.func6 (by kernel_rfl)
    (of_decide_eq_true (by kernel_rfl)) (by unfold Func.isWrapper; first | (rw [if_pos (by decide +kernel)]; kernel_rfl) | (rw [if_neg (by decide +kernel)]; exact ⟨rfl, rfl⟩))
    (fun os started H enc _ => lifted os started H enc)
end Go.Proofs.Ytpgiiidnimbdgaa.frameCutsRow
namespace Go.Proofs.Ytpgiiidnimbdgaa
/-- The row, under a short name, for the claim. -/
theorem frameCuts_holds : Rows.FrameCutsSaid := frameCutsRow.over
#print axioms frameCuts_holds
end Go.Proofs.Ytpgiiidnimbdgaa
