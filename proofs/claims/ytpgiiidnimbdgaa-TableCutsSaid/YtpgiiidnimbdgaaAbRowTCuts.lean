/- The row of the law TableCuts: for every input the law returns true, and its arguments read as before. -/
import Derived.Test.YtpgiiidnimbdgaaRows
import Derived.Test.YtpgiiidnimbdgaaAbF41
import Derived.Test.YtpgiiidnimbdgaaAbR
namespace Go.Proofs.Ytpgiiidnimbdgaa.tableCutsRow
open Go.ChangeShapes Go.WideShapes Go.ChangeAt Go.RowKit Go.Ab
set_option linter.unusedVariables false
set_option linter.unusedSimpArgs false
theorem own : ownKnob Try.prog.godebug = none := by kernel_rfl
theorem laidOut : laidOutB Try.prog = true := by kernel_rfl
theorem args_get {P : Program} {S : St} {g : FuncId} {Q : Value → St → Prop} {t0 t1 t2 t3 : TypeId} (h : ∀ u0 u1 u2 u3 : Value, ArgL P S t0 u0 → ArgL P S t1 u1 → ArgL P S t2 u2 → ArgL P S t3 u3 → ACalls P g [u0, u1, u2, u3] S Q) (us : List Value) (hl : us.length = [t0, t1, t2, t3].length) (hu : ∀ (j : Nat) t u, [t0, t1, t2, t3][j]? = some t → us[j]? = some u → ArgL P S t u) : ACalls P g us S Q := by
  match us, hl with
  | [u0, u1, u2, u3], _ => exact h u0 u1 u2 u3 (hu 0 _ _ rfl rfl) (hu 1 _ _ rfl rfl) (hu 2 _ _ rfl rfl) (hu 3 _ _ rfl rfl)
set_option maxRecDepth 100000 in
theorem walk (S : St) (u0 u1 u2 u3 : Value) (h0 : ArgL Try.prog S 56 u0) (h1 : ArgL Try.prog S 3 u1) (h2 : ArgL Try.prog S 22 u2) (h3 : ArgL Try.prog S 5 u3) : ACalls Try.prog 10 [u0, u1, u2, u3] S (fun r _ => r = .bool true) := by
  obtain ⟨c, vp, vq, vr, rfl, g1⟩ := arg56 h0
  simp only [ArgL, Try.underlying3] at h1
  obtain ⟨n, h1, _⟩ := h1.int_ Try.underlying3
  cases h1
  obtain ⟨l, q1, q2, q3⟩ := arg22 h2
  simp only [ArgL, Try.underlying5] at h3
  obtain ⟨k, h3, hk⟩ := lies_u8 h3 Try.underlying5
  cases h3
  exact (call10 g1 n q1 q2 q3 k (by omega)).mono fun r S' h => h.2
set_option maxRecDepth 100000 in
theorem lifted (os : Os) (started : os.Started) (H : Type) (enc : TypeId × Value → H) :
    ReturnsInHanded {} Try.checked os 10 .any (Rows.tableCutsSpec.pre6 enc Try.prog Try.f10 Rows.tableCutsRow.domain false) (Rows.tableCutsSpec.post enc Try.prog Try.f10 false true false false) := by
  refine returnsInHanded_of_change_sized (C := Try.checked) own started (by kernel_rfl) Try.func10
    (ChangeSpec.witness6 (enc := enc) (C := Try.checked) false ⟨#[], #[.agg #[.int .i64 0, .int .i64 0, .int .i64 0, .int .i64 0, .int .i64 0, .int .i64 0, .int .i64 0, .int .i64 0, .slice none 0 0, .slice none 0 0, .slice none 0 0], .int .i64 0, .slice none 0 0, .int .u8 0], []⟩ 8 (by kernel_rfl) (by kernel_rfl) (by kernel_rfl) (by kernel_rfl)) ?_
  intro W base args ds gs before hval0 hW hcnd hsz0 _
  have hsz : (DataW.weightsEach Try.prog (Try.f10.params.toList ++ Rows.tableCutsSpec.plain.varTypes Try.prog) (ds ++ gs)).all (· ≤ reachBytes) = true := hsz0
  have hval : ∀ (j : Nat) t v, Try.f10.params[j]? = some t → args[j]? = some v → Value.okWide Try.prog W .any base t v := hval0
  have hW' := hW
  obtain ⟨p, q, hA0, hV, rfl, hfz, hnd⟩ := hW
  have hA : DataW.TrodAll enc Try.prog W 0 (fun _ => true) true Try.f10.params.toList args.toList ds p := hA0
  rw [Try.params10] at hA hval hsz
  obtain ⟨rfl, rfl⟩ := trodVars_none hV
  have hval2 : ∀ (j : Nat) t v, [56, 3, 22, 5][j]? = some t → args[j]? = some v → Value.okWide Try.prog W .any base t v := fun j t v h1 h2 => hval j t v (by simpa using h1) h2
  have hsz2 : (DataW.weightsEach Try.prog [56, 3, 22, 5] ds).all (· ≤ reachBytes) = true := by
    have e : Rows.tableCutsSpec.plain.varTypes Try.prog = [] := by kernel_rfl
    rw [e] at hsz
    simpa using hsz
  have hc := calls_of_args (g := 10) (ts := [56, 3, 22, 5]) (by kernel_rfl) hA hval2 hsz2 (fun S => args_get (walk S))
  obtain ⟨v0, vs0, d0, ds0, p0, q0, hargs, rfl, rfl, h0, r0⟩ := trodAll_cons hA
  obtain ⟨v1, vs1, d1, ds1, p1, q1, rfl, rfl, rfl, h1, r1⟩ := trodAll_cons r0
  obtain ⟨v2, vs2, d2, ds2, p2, q2, rfl, rfl, rfl, h2, r2⟩ := trodAll_cons r1
  obtain ⟨v3, vs3, d3, ds3, p3, q3, rfl, rfl, rfl, h3, r3⟩ := trodAll_cons r2
  obtain ⟨rfl, rfl, rfl⟩ := trodAll_nil r3
  obtain rfl : args = #[v0, v1, v2, v3] := by cases args; simp_all
  have lt0 : ∀ x ∈ p0, x.block < W.heap.size := by obtain ⟨m, hm⟩ := h0; exact DataW.trod_lt m _ _ _ hm
  have lt1 : ∀ x ∈ p1, x.block < W.heap.size := by obtain ⟨m, hm⟩ := h1; exact DataW.trod_lt m _ _ _ hm
  have lt2 : ∀ x ∈ p2, x.block < W.heap.size := by obtain ⟨m, hm⟩ := h2; exact DataW.trod_lt m _ _ _ hm
  have lt3 : ∀ x ∈ p3, x.block < W.heap.size := by obtain ⟨m, hm⟩ := h3; exact DataW.trod_lt m _ _ _ hm
  refine hc.mono fun e W' ⟨he, bel⟩ => ?_
  subst he
  exact ⟨_, rfl, _, _, _, [], _, [], hW', trodAll_mk1 (shut_bool Try.underlying4 _), (trodAll_cons_mk (Below.trod laidOut (by kernel_rfl) (of_decide_eq_true (by kernel_rfl)) h0 bel lt0) (trodAll_cons_mk (Below.trod laidOut (by kernel_rfl) (of_decide_eq_true (by kernel_rfl)) h1 bel lt1) (trodAll_cons_mk (Below.trod laidOut (by kernel_rfl) (of_decide_eq_true (by kernel_rfl)) h2 bel lt2) (trodAll_cons_mk (Below.trod laidOut (by kernel_rfl) (of_decide_eq_true (by kernel_rfl)) h3 bel lt3) trodAll_mk0)))), rfl, bel.frame _, fun h => by cases h⟩
theorem over : Rows.tableCutsRow.holds Try.pinned (OpenSpec.ofChange Rows.tableCutsSpec) :=
  OpenClaim.holds_of_wide 10 Try.f10 rfl rfl rfl rfl rfl rfl rfl ⟨rfl, rfl, rfl, rfl, rfl⟩ rfl rfl rfl rfl rfl (by kernel_rfl) Try.func10 (by kernel_rfl)
    (of_decide_eq_true (by kernel_rfl)) (by unfold Func.isWrapper; first | (rw [if_pos (by decide +kernel)]; kernel_rfl) | (rw [if_neg (by decide +kernel)]; exact ⟨rfl, rfl⟩))
    (fun os started H enc _ => lifted os started H enc)
end Go.Proofs.Ytpgiiidnimbdgaa.tableCutsRow
namespace Go.Proofs.Ytpgiiidnimbdgaa
/-- The row, under a short name, for the claim. -/
theorem tableCuts_holds : Rows.TableCutsSaid := tableCutsRow.over
#print axioms tableCuts_holds
end Go.Proofs.Ytpgiiidnimbdgaa
