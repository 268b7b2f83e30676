/- The copy of tables, walked. -/
import Derived.Test.YtoikfhpbkpljlaaAbF21
import Derived.Test.YtoikfhpbkpljlaaAbF15
namespace Go.Proofs.Ytoikfhpbkpljlaa
open Go.Ab
set_option linter.unusedSimpArgs false
set_option linter.unusedVariables false

theorem bs22_0 (S : St) : buildSliceA TT S 22 0 [] = some (.slice (some ⟨S.length, 0, none⟩) 0 9, S ++ [.row 39 true []]) := by kernel_rfl
theorem bs23_0 (S : St) : buildSliceA TT S 23 0 [] = some (.slice (some ⟨S.length, 0, none⟩) 0 6, S ++ [.row 54 true []]) := by kernel_rfl
theorem bs24_0 (S : St) : buildSliceA TT S 24 0 [] = some (.slice (some ⟨S.length, 0, none⟩) 0 2, S ++ [.row 56 true []]) := by kernel_rfl

/-- A copy's slices. -/
def Cf.copy (c : Cf) (n l8 l9 l10 : Nat) : Cf := { c with v8 := .slice (some ⟨n, 0, none⟩) l8 9, v9 := .slice (some ⟨n + 1, 0, none⟩) l9 6, v10 := .slice (some ⟨n + 2, 0, none⟩) l10 2 }
def cutR (a : Lay) (n : Nat) : List Value := (a.cs.drop a.k).take n
def copyR (ps : List Pt) (qs : List Qt) (rs : List Rt) (a b d : Lay) : St := [.row 39 true (cutR a (ps.length * 9)), .row 54 true (cutR b (qs.length * 6)), .row 56 true (cutR d (rs.length * 2))]

theorem slAt_copy {sz : Nat} {S S' : St} {xs : List (List Value)} {o k o' : Nat} {ty : TypeId} {rw rw' : Bool} {cs : List Value} (h : SlAt sz S xs o k ty rw cs) (n : Nat) (hn : n = xs.length * sz) (hS : S'[o']? = some (.row ty rw' ((cs.drop k).take n))) :
    SlAt sz S' xs o' 0 ty rw' ((cs.drop k).take n) := by
  refine ⟨hS, fun j x hj => ?_, h.len⟩
  have h1 := h.cell j x hj
  have hjl := (List.getElem?_eq_some_iff.1 hj).1
  rw [← h1, List.drop_take, List.take_take, List.drop_drop]
  have e1 : k + (0 + j * sz) = k + j * sz := by omega
  rw [e1]
  congr 1
  have : j * sz + sz ≤ xs.length * sz := by
    rw [← Nat.succ_mul]
    exact Nat.mul_le_mul_right _ hjl
  omega
theorem slAt_closed {sz : Nat} {S : St} {xs : List (List Value)} {o k : Nat} {ty : TypeId} {rw : Bool} {cs : List Value} (hc : ClosedSt S.length S) (h : SlAt sz S xs o k ty rw cs) (n : Nat) : ∀ v ∈ (cs.drop k).take n, Closed S.length v :=
  fun v hv => hc o ty rw cs h.row v (List.mem_of_mem_drop (List.mem_of_mem_take hv))

theorem CfAt.copy {S : St} {c : Cf} {ps : List Pt} {qs : List Qt} {rs : List Rt} {a b d : Lay} (h : CfAt S c ps qs rs a b d) (R : St) :
    CfAt (S ++ (copyR ps qs rs a b d ++ R)) (c.copy S.length ps.length qs.length rs.length) ps qs rs ⟨S.length, 0, 9, true, cutR a (ps.length * 9)⟩ ⟨S.length + 1, 0, 6, true, cutR b (qs.length * 6)⟩ ⟨S.length + 2, 0, 2, true, cutR d (rs.length * 2)⟩ :=
  ⟨rfl, rfl, rfl, slAt_copy h.at8 _ (by simp) (at_new S _ _), slAt_copy h.at9 _ (by simp) (at_new1 S _ _ 0), slAt_copy h.at10 _ (by simp) (at_new1 S _ _ 1), h.l8, h.l9, h.l10⟩

theorem Cf.set8 (c : Cf) (v : Value) : c.cells.set 8 v = ({ c with v8 := v } : Cf).cells := rfl
theorem Cf.set9 (c : Cf) (v : Value) : c.cells.set 9 v = ({ c with v9 := v } : Cf).cells := rfl
theorem Cf.set10 (c : Cf) (v : Value) : c.cells.set 10 v = ({ c with v10 := v } : Cf).cells := rfl

theorem enter8 (cargs : Array Value) (w : World) : (callFunc 8 cargs).run Try.prog w = .ok (.enter 8 cargs) w := by kernel_rfl
set_option maxHeartbeats 1000000 in
theorem call8 {S : St} {c : Cf} {ps : List Pt} {qs : List Qt} {rs : List Rt} {a b d : Lay} (hp : CfAt S c ps qs rs a b d) (hfit : Fit ps qs rs a b d) (m8 : ps.length ≤ 1000) (m9 : qs.length ≤ 1000) (m10 : rs.length ≤ 1000) :
    ACalls Try.prog 8 [c.val] S (fun r S' => r = (c.copy S.length ps.length qs.length rs.length).val ∧ S' = S ++ copyR ps qs rs a b d) := by
  refine ACalls.weak (ACalls.of tok enter8 Try.func8 rfl (m := 19) rfl (by simp) (rs := [.cell 2 26]) rfl fun hc ha => ?_)
  have hcl := cells_closed (ha c.val (by simp))
  obtain ⟨f8, f9, f10⟩ := hfit
  have v8 := hp.v8
  have v9 := hp.v9
  have v10 := hp.v10
  have g8 : ∀ R, (S ++ R)[a.o]? = some (.row 39 a.rw a.cs) := fun R => at_old hp.at8.row R
  have g9 : ∀ R, (S ++ R)[b.o]? = some (.row 54 b.rw b.cs) := fun R => at_old hp.at9.row R
  have g10 : ∀ R, (S ++ R)[d.o]? = some (.row 56 d.rw d.cs) := fun R => at_old hp.at10.row R
  have c8 : ps.length * 48 ≤ 140737488355328 := by omega
  have c9 : qs.length * 40 ≤ 140737488355328 := by omega
  have c10 : rs.length * 16 ≤ 140737488355328 := by omega
  clear ha
  refine AWp.seq_region tok fun K hK => ?_
  simp -implicitDefEqProofs only [vcT, wantedA, kp, kp2, kpS, kr, k1, k2, kL, kLP, kFn, kFn2, kSl, kSl2, kSl3, kC2, kP0, kP1, ev, evs, evParts, evO, Nat.reduceLT, Nat.reduceEqDiff, reduceIte, fr0, okConst, okc, appendA, cellsA, boxA, allocA, storeA, loadA, fieldA, indexA, fieldV, indexV, partA, extractA, nilA, binA, intBin, unA, lenA, isAggD, isConst, Nat.reduceAdd, Nat.reduceMul, Nat.reduceLeDiff, Nat.reduceSub, Nat.reduceBEq, splice, reduceCtorEq, Int.reduceEq, Int.reduceLT, Int.reduceLE, Int.reduceNeg, Int.reduceBEq, String.reduceEq, eqFlat, tf, aOpI, Cf.solid_val, Cf.val_cells, List.toList_toArray, Cf.c0, Cf.c1, Cf.c2, Cf.c3, Cf.c4, Cf.c5, Cf.c6, Cf.c7, Cf.c8, Cf.c9, Cf.c10, Cf.len, Cf.take11, Cf.fold, ty26]
  refine hK _ _ ?_
  clear hK
  refine AWp.seq_region tok fun K hK => ?_
  simp -implicitDefEqProofs only [vcT, wantedA, kp, kp2, kpS, kr, k1, k2, kL, kLP, kFn, kFn2, kSl, kSl2, kSl3, kC2, kP0, kP1, ev, evs, evParts, evO, Nat.reduceLT, Nat.reduceEqDiff, reduceIte, fr0, okConst, okc, appendA, cellsA, boxA, allocA, storeA, loadA, fieldA, indexA, fieldV, indexV, partA, extractA, nilA, binA, intBin, unA, lenA, isAggD, isConst, Nat.reduceAdd, Nat.reduceMul, Nat.reduceLeDiff, Nat.reduceSub, Nat.reduceBEq, splice, reduceCtorEq, Int.reduceEq, Int.reduceLT, Int.reduceLE, Int.reduceNeg, Int.reduceBEq, String.reduceEq, eqFlat, tf, aOpI, Cf.solid_val, Cf.val_cells, List.toList_toArray, Cf.c0, Cf.c1, Cf.c2, Cf.c3, Cf.c4, Cf.c5, Cf.c6, Cf.c7, Cf.c8, Cf.c9, Cf.c10, Cf.len, Cf.take11, Cf.fold, ty26, ty22, ty39, bs22_0, v8, g8, f8, hp.l8, c8, Cf.set8]
  refine hK _ _ ?_
  clear hK
  refine AWp.seq_region tok fun K hK => ?_
  simp -implicitDefEqProofs only [vcT, wantedA, kp, kp2, kpS, kr, k1, k2, kL, kLP, kFn, kFn2, kSl, kSl2, kSl3, kC2, kP0, kP1, ev, evs, evParts, evO, Nat.reduceLT, Nat.reduceEqDiff, reduceIte, fr0, okConst, okc, appendA, cellsA, boxA, allocA, storeA, loadA, fieldA, indexA, fieldV, indexV, partA, extractA, nilA, binA, intBin, unA, lenA, isAggD, isConst, Nat.reduceAdd, Nat.reduceMul, Nat.reduceLeDiff, Nat.reduceSub, Nat.reduceBEq, splice, reduceCtorEq, Int.reduceEq, Int.reduceLT, Int.reduceLE, Int.reduceNeg, Int.reduceBEq, String.reduceEq, eqFlat, tf, aOpI, Cf.solid_val, Cf.val_cells, List.toList_toArray, Cf.c0, Cf.c1, Cf.c2, Cf.c3, Cf.c4, Cf.c5, Cf.c6, Cf.c7, Cf.c8, Cf.c9, Cf.c10, Cf.len, Cf.take11, Cf.fold, ty26, ty23, ty54, bs23_0, v9, g9, f9, hp.l9, c9, Cf.set9]
  refine hK _ _ ?_
  clear hK
  refine AWp.seq_region tok fun K hK => ?_
  simp -implicitDefEqProofs only [vcT, wantedA, kp, kp2, kpS, kr, k1, k2, kL, kLP, kFn, kFn2, kSl, kSl2, kSl3, kC2, kP0, kP1, ev, evs, evParts, evO, Nat.reduceLT, Nat.reduceEqDiff, reduceIte, fr0, okConst, okc, appendA, cellsA, boxA, allocA, storeA, loadA, fieldA, indexA, fieldV, indexV, partA, extractA, nilA, binA, intBin, unA, lenA, isAggD, isConst, Nat.reduceAdd, Nat.reduceMul, Nat.reduceLeDiff, Nat.reduceSub, Nat.reduceBEq, splice, reduceCtorEq, Int.reduceEq, Int.reduceLT, Int.reduceLE, Int.reduceNeg, Int.reduceBEq, String.reduceEq, eqFlat, tf, aOpI, Cf.solid_val, Cf.val_cells, List.toList_toArray, Cf.c0, Cf.c1, Cf.c2, Cf.c3, Cf.c4, Cf.c5, Cf.c6, Cf.c7, Cf.c8, Cf.c9, Cf.c10, Cf.len, Cf.take11, Cf.fold, ty26, ty24, ty56, bs24_0, v10, g10, f10, hp.l10, c10, Cf.set10]
  refine hK _ _ ?_
  clear hK
  refine AWp.seq_region tok fun K hK => ?_
  simp -implicitDefEqProofs only [vcT, wantedA, kp, kp2, kpS, kr, k1, k2, kL, kLP, kFn, kFn2, kSl, kSl2, kSl3, kC2, kP0, kP1, ev, evs, evParts, evO, Nat.reduceLT, Nat.reduceEqDiff, reduceIte, fr0, okConst, okc, appendA, cellsA, boxA, allocA, storeA, loadA, fieldA, indexA, fieldV, indexV, partA, extractA, nilA, binA, intBin, unA, lenA, isAggD, isConst, Nat.reduceAdd, Nat.reduceMul, Nat.reduceLeDiff, Nat.reduceSub, Nat.reduceBEq, splice, reduceCtorEq, Int.reduceEq, Int.reduceLT, Int.reduceLE, Int.reduceNeg, Int.reduceBEq, String.reduceEq, eqFlat, tf, aOpI, Cf.solid_val, Cf.val_cells, List.toList_toArray, Cf.c0, Cf.c1, Cf.c2, Cf.c3, Cf.c4, Cf.c5, Cf.c6, Cf.c7, Cf.c8, Cf.c9, Cf.c10, Cf.len, Cf.take11, Cf.fold, ty26]
  refine hK _ _ ?_
  clear hK
  refine AWp.ret ?_
  simp -implicitDefEqProofs only [vcT, wantedA, kp, kp2, kpS, kr, k1, k2, kL, kLP, kFn, kFn2, kSl, kSl2, kSl3, kC2, kP0, kP1, ev, evs, evParts, evO, Nat.reduceLT, Nat.reduceEqDiff, reduceIte, fr0, okConst, okc, appendA, cellsA, boxA, allocA, storeA, loadA, fieldA, indexA, fieldV, indexV, partA, extractA, nilA, binA, intBin, unA, lenA, isAggD, isConst, Nat.reduceAdd, Nat.reduceMul, Nat.reduceLeDiff, Nat.reduceSub, Nat.reduceBEq, splice, reduceCtorEq, Int.reduceEq, Int.reduceLT, Int.reduceLE, Int.reduceNeg, Int.reduceBEq, String.reduceEq, eqFlat, tf, aOpI, ThenA, BlockA, EndA, ressA, resA, wrapA, Cf.solid_val, Cf.val_cells, List.toList_toArray, Cf.c0, Cf.c1, Cf.c2, Cf.c3, Cf.c4, Cf.c5, Cf.c6, Cf.c7, Cf.c8, Cf.c9, Cf.c10, Cf.len, Cf.take11, Cf.fold, ty26]
  refine ⟨_, _, by simp, WkR.keep hc [3, 5, 7] rfl (by decide) ?_ ?_, rfl, rfl⟩
  · simp only [List.forall_mem_cons, List.not_mem_nil, false_implies, implies_true, and_true, RowCl, copyR, cutR]
    exact ⟨slAt_closed hc hp.at8 _, slAt_closed hc hp.at9 _, slAt_closed hc hp.at10 _⟩
  · exact Ren.aggL ⟨.const _ rfl, .const _ rfl, .const _ rfl, .const _ rfl, .const _ rfl, .const _ rfl, .const _ rfl, .const _ rfl, .slice _ _ _ _ _ (keepOf_ge (j := 0) rfl), .slice _ _ _ _ _ (keepOf_ge (j := 1) rfl), .slice _ _ _ _ _ (keepOf_ge (j := 2) rfl), trivial⟩
end Go.Proofs.Ytoikfhpbkpljlaa
