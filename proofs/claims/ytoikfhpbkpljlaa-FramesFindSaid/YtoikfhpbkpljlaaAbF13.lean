/- Whether a configuration works, walked. -/
import Derived.Test.YtoikfhpbkpljlaaAbF12
namespace Go.Proofs.Ytoikfhpbkpljlaa
open Go.Ab
set_option linter.unusedSimpArgs false
set_option linter.unusedVariables false

theorem enter7 (cargs : Array Value) (w : World) : (callFunc 7 cargs).run Try.prog w = .ok (.enter 7 cargs) w := by kernel_rfl
theorem call7 {S : St} {c : Cf} {ps : List Pt} {qs : List Qt} {rs : List Rt} {a b d : Lay} (hp : CfAt S c ps qs rs a b d) :
    ACalls Try.prog 7 [c.val] S (fun r S' => S' = S ∧ ∃ x : Bool, r = .bool x ∧ (x = true → c.Chk6 ps qs rs)) := by
  refine ACalls.ofP tok enter7 Try.func7 rfl (m := 11) rfl (by simp) (rs := [.tmp 2]) rfl fun hc ha => ?_
  clear ha
  refine AWp.seq_region tok fun K hK => ?_
  simp -implicitDefEqProofs only [vcT, wantedA, kp, kp2, kpS, kr, k1, k2, kL, kLP, kFn, kFn2, kSl, kSl2, kSl3, kC2, kP0, kP1, ev, evs, evParts, evO, Nat.reduceLT, Nat.reduceEqDiff, reduceIte, fr0, okConst, okc, appendA, cellsA, boxA, allocA, storeA, loadA, fieldA, indexA, fieldV, indexV, partA, extractA, nilA, binA, intBin, unA, lenA, isAggD, isConst, Nat.reduceAdd, Nat.reduceMul, Nat.reduceLeDiff, Nat.reduceSub, Nat.reduceBEq, splice, reduceCtorEq, Int.reduceEq, Int.reduceLT, Int.reduceLE, Int.reduceNeg, Int.reduceBEq, String.reduceEq, eqFlat, tf, aOpI, Cf.solid_val, Cf.val_cells, List.toList_toArray, Cf.c0, Cf.c1, Cf.c2, Cf.c3, Cf.c4, Cf.c5, Cf.c6, Cf.c7, Cf.c8, Cf.c9, Cf.c10, Cf.len, Cf.take11, Cf.fold]
  refine hK _ _ ?_
  clear hK
  refine AWp.seq_region tok fun K hK => ?_
  refine aList_cut 1 fun K1 hK1 => ?_
  simp -implicitDefEqProofs only [vcT, wantedA, kp, kp2, kpS, kr, k1, k2, kL, kLP, kFn, kFn2, kSl, kSl2, kSl3, kC2, kP0, kP1, ev, evs, evParts, evO, Nat.reduceLT, Nat.reduceEqDiff, reduceIte, fr0, okConst, okc, appendA, cellsA, boxA, allocA, storeA, loadA, fieldA, indexA, fieldV, indexV, partA, extractA, nilA, binA, intBin, unA, lenA, isAggD, isConst, Nat.reduceAdd, Nat.reduceMul, Nat.reduceLeDiff, Nat.reduceSub, Nat.reduceBEq, splice, reduceCtorEq, Int.reduceEq, Int.reduceLT, Int.reduceLE, Int.reduceNeg, Int.reduceBEq, String.reduceEq, eqFlat, tf, aOpI, ty26, Cf.solid_val, Cf.val_cells, List.toList_toArray, Cf.c0, Cf.c1, Cf.c2, Cf.c3, Cf.c4, Cf.c5, Cf.c6, Cf.c7, Cf.c8, Cf.c9, Cf.c10, Cf.len, Cf.take11, Cf.fold]
  refine hK1 _ _ ?_
  clear hK1
  refine aList_cut 1 fun K1 hK1 => ?_
  simp -implicitDefEqProofs only [vcT, wantedA, kp, kp2, kpS, kr, k1, k2, kL, kLP, kFn, kFn2, kSl, kSl2, kSl3, kC2, kP0, kP1, ev, evs, evParts, evO, Nat.reduceLT, Nat.reduceEqDiff, reduceIte, fr0, okConst, okc, appendA, cellsA, boxA, allocA, storeA, loadA, fieldA, indexA, fieldV, indexV, partA, extractA, nilA, binA, intBin, unA, lenA, isAggD, isConst, Nat.reduceAdd, Nat.reduceMul, Nat.reduceLeDiff, Nat.reduceSub, Nat.reduceBEq, splice, reduceCtorEq, Int.reduceEq, Int.reduceLT, Int.reduceLE, Int.reduceNeg, Int.reduceBEq, String.reduceEq, eqFlat, tf, aOpI, Array.toList_empty, List.drop_succ_cons, List.drop_zero]
  refine (call19 (hp.append _)).mono ?_
  rintro r S' ⟨rfl, x, rfl, hx⟩
  refine hK1 _ _ ?_
  clear hK1
  cases x with
  | true =>
    simp -implicitDefEqProofs only [vcT, wantedA, kp, kp2, kpS, kr, k1, k2, kL, kLP, kFn, kFn2, kSl, kSl2, kSl3, kC2, kP0, kP1, ev, evs, evParts, evO, Nat.reduceLT, Nat.reduceEqDiff, reduceIte, fr0, okConst, okc, appendA, cellsA, boxA, allocA, storeA, loadA, fieldA, indexA, fieldV, indexV, partA, extractA, nilA, binA, intBin, unA, lenA, isAggD, isConst, Nat.reduceAdd, Nat.reduceMul, Nat.reduceLeDiff, Nat.reduceSub, Nat.reduceBEq, splice, reduceCtorEq, Int.reduceEq, Int.reduceLT, Int.reduceLE, Int.reduceNeg, Int.reduceBEq, String.reduceEq, eqFlat, tf, aOpI, List.drop_succ_cons, List.drop_zero]
    refine hK _ _ ?_
    clear hK
    refine AWp.ret ?_
    simp -implicitDefEqProofs only [vcT, wantedA, kp, kp2, kpS, kr, k1, k2, kL, kLP, kFn, kFn2, kSl, kSl2, kSl3, kC2, kP0, kP1, ev, evs, evParts, evO, Nat.reduceLT, Nat.reduceEqDiff, reduceIte, fr0, okConst, okc, appendA, cellsA, boxA, allocA, storeA, loadA, fieldA, indexA, fieldV, indexV, partA, extractA, nilA, binA, intBin, unA, lenA, isAggD, isConst, Nat.reduceAdd, Nat.reduceMul, Nat.reduceLeDiff, Nat.reduceSub, Nat.reduceBEq, splice, reduceCtorEq, Int.reduceEq, Int.reduceLT, Int.reduceLE, Int.reduceNeg, Int.reduceBEq, String.reduceEq, eqFlat, tf, aOpI, ThenA, BlockA, EndA, ressA, resA, wrapA]
    exact ⟨⟨_, rfl⟩, .const _ rfl, false, rfl, by simp⟩
  | false =>
    refine aList_cut 3 fun K1 hK1 => ?_
    simp -implicitDefEqProofs only [vcT, wantedA, kp, kp2, kpS, kr, k1, k2, kL, kLP, kFn, kFn2, kSl, kSl2, kSl3, kC2, kP0, kP1, ev, evs, evParts, evO, Nat.reduceLT, Nat.reduceEqDiff, reduceIte, fr0, okConst, okc, appendA, cellsA, boxA, allocA, storeA, loadA, fieldA, indexA, fieldV, indexV, partA, extractA, nilA, binA, intBin, unA, lenA, isAggD, isConst, Nat.reduceAdd, Nat.reduceMul, Nat.reduceLeDiff, Nat.reduceSub, Nat.reduceBEq, splice, reduceCtorEq, Int.reduceEq, Int.reduceLT, Int.reduceLE, Int.reduceNeg, Int.reduceBEq, String.reduceEq, eqFlat, tf, aOpI, ty26, Cf.solid_val, Cf.val_cells, List.toList_toArray, Cf.c0, Cf.c1, Cf.c2, Cf.c3, Cf.c4, Cf.c5, Cf.c6, Cf.c7, Cf.c8, Cf.c9, Cf.c10, Cf.len, Cf.take11, Cf.fold, List.drop_succ_cons, List.drop_zero]
    refine hK1 _ _ ?_
    clear hK1
    refine aList_cut 1 fun K1 hK1 => ?_
    simp -implicitDefEqProofs only [vcT, wantedA, kp, kp2, kpS, kr, k1, k2, kL, kLP, kFn, kFn2, kSl, kSl2, kSl3, kC2, kP0, kP1, ev, evs, evParts, evO, Nat.reduceLT, Nat.reduceEqDiff, reduceIte, fr0, okConst, okc, appendA, cellsA, boxA, allocA, storeA, loadA, fieldA, indexA, fieldV, indexV, partA, extractA, nilA, binA, intBin, unA, lenA, isAggD, isConst, Nat.reduceAdd, Nat.reduceMul, Nat.reduceLeDiff, Nat.reduceSub, Nat.reduceBEq, splice, reduceCtorEq, Int.reduceEq, Int.reduceLT, Int.reduceLE, Int.reduceNeg, Int.reduceBEq, String.reduceEq, eqFlat, tf, aOpI, Array.toList_empty, List.drop_succ_cons, List.drop_zero]
    refine (call20 (hp.append _)).mono ?_
    rintro r S' ⟨rfl, s, rfl, hs1, hs2⟩
    refine hK1 _ _ ?_
    clear hK1
    simp -implicitDefEqProofs only [vcT, wantedA, kp, kp2, kpS, kr, k1, k2, kL, kLP, kFn, kFn2, kSl, kSl2, kSl3, kC2, kP0, kP1, ev, evs, evParts, evO, Nat.reduceLT, Nat.reduceEqDiff, reduceIte, fr0, okConst, okc, appendA, cellsA, boxA, allocA, storeA, loadA, fieldA, indexA, fieldV, indexV, partA, extractA, nilA, binA, intBin, unA, lenA, isAggD, isConst, Nat.reduceAdd, Nat.reduceMul, Nat.reduceLeDiff, Nat.reduceSub, Nat.reduceBEq, splice, reduceCtorEq, Int.reduceEq, Int.reduceLT, Int.reduceLE, Int.reduceNeg, Int.reduceBEq, String.reduceEq, eqFlat, tf, aOpI, List.drop_succ_cons, List.drop_zero, strBin, toList_empty]
    refine hK _ _ ?_
    clear hK
    refine AWp.ret ?_
    simp -implicitDefEqProofs only [vcT, wantedA, kp, kp2, kpS, kr, k1, k2, kL, kLP, kFn, kFn2, kSl, kSl2, kSl3, kC2, kP0, kP1, ev, evs, evParts, evO, Nat.reduceLT, Nat.reduceEqDiff, reduceIte, fr0, okConst, okc, appendA, cellsA, boxA, allocA, storeA, loadA, fieldA, indexA, fieldV, indexV, partA, extractA, nilA, binA, intBin, unA, lenA, isAggD, isConst, Nat.reduceAdd, Nat.reduceMul, Nat.reduceLeDiff, Nat.reduceSub, Nat.reduceBEq, splice, reduceCtorEq, Int.reduceEq, Int.reduceLT, Int.reduceLE, Int.reduceNeg, Int.reduceBEq, String.reduceEq, eqFlat, tf, aOpI, ThenA, BlockA, EndA, ressA, resA, wrapA]
    exact ⟨⟨_, rfl⟩, .const _ rfl, _, rfl, fun h => hs2 (by simpa using h)⟩
end Go.Proofs.Ytoikfhpbkpljlaa
