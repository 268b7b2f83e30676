/- The test of a configuration, walked: that it comes to an end, and what it lets through. -/
import Derived.Test.YtoikfhpbkpljlaaAbF6
namespace Go.Proofs.Ytoikfhpbkpljlaa
open Go.Ab
set_option linter.unusedSimpArgs false
set_option linter.unusedVariables false

structure Qt where
  part : Int
  kind : Int
  out : Bool
  size : Int
  depth : Int
  fresh : Int
  deriving Inhabited
def Qt.cells (q : Qt) : List Value := [.int .i64 q.part, .int .u8 q.kind, .bool q.out, .int .i64 q.size, .int .i64 q.depth, .int .i64 q.fresh]
structure Rt where
  fr : Int
  to : Int
  deriving Inhabited
def Rt.cells (r : Rt) : List Value := [.int .i64 r.fr, .int .i64 r.to]

/-- Where a slice lies. -/
structure Lay where
  o : Nat
  k : Nat
  s : Nat
  rw : Bool
  cs : List Value
/-- A configuration lies so. -/
structure CfAt (S : St) (c : Cf) (ps : List Pt) (qs : List Qt) (rs : List Rt) (a b d : Lay) : Prop where
  v8 : c.v8 = .slice (some ⟨a.o, a.k, none⟩) ps.length a.s
  v9 : c.v9 = .slice (some ⟨b.o, b.k, none⟩) qs.length b.s
  v10 : c.v10 = .slice (some ⟨d.o, d.k, none⟩) rs.length d.s
  at8 : SlAt 9 S (ps.map Pt.cells) a.o a.k 39 a.rw a.cs
  at9 : SlAt 6 S (qs.map Qt.cells) b.o b.k 54 b.rw b.cs
  at10 : SlAt 2 S (rs.map Rt.cells) d.o d.k 56 d.rw d.cs
  l8 : ps.length ≤ 9223372036854775807
  l9 : qs.length ≤ 9223372036854775807
  l10 : rs.length ≤ 9223372036854775807

section
variable {S : St} {c : Cf} {ps : List Pt} {qs : List Qt} {rs : List Rt} {a b d : Lay}
theorem CfAt.append (h : CfAt S c ps qs rs a b d) (R : St) : CfAt (S ++ R) c ps qs rs a b d :=
  ⟨h.v8, h.v9, h.v10, ⟨at_old h.at8.row R, h.at8.cell, h.at8.len⟩, ⟨at_old h.at9.row R, h.at9.cell, h.at9.len⟩, ⟨at_old h.at10.row R, h.at10.cell, h.at10.len⟩, h.l8, h.l9, h.l10⟩
theorem CfAt.pt (h : CfAt S c ps qs rs a b d) (hs : ps.length < 20) : PtAt S c ps a.o a.k a.s a.rw a.cs := ⟨h.v8, h.at8, hs⟩
end

theorem enter19 (cargs : Array Value) (w : World) : (callFunc 19 cargs).run Try.prog w = .ok (.enter 19 cargs) w := by kernel_rfl
theorem call19 {S : St} {c : Cf} {ps : List Pt} {qs : List Qt} {rs : List Rt} {a b d : Lay} (hp : CfAt S c ps qs rs a b d) :
    ACalls Try.prog 19 [c.val] S (fun r S' => S' = S ∧ ∃ x : Bool, r = .bool x ∧ (x = false → ps.length ≤ 40 ∧ qs.length ≤ 60 ∧ rs.length ≤ 60)) := by
  refine ACalls.ofP tok enter19 Try.func19 rfl (m := 19) rfl (by simp) (rs := [.tmp 2]) rfl fun hc ha => ?_
  have v8 := hp.v8
  have v9 := hp.v9
  have v10 := hp.v10
  have l8 := hp.l8
  have l9 := hp.l9
  have l10 := hp.l10
  clear ha
  refine AWp.seq_region tok fun K hK => ?_
  simp -implicitDefEqProofs only [vcT, wantedA, kp, kp2, kpS, kr, k1, k2, kL, kLP, kFn, kFn2, kSl, kSl2, kSl3, kC2, kP0, kP1, ev, evs, evParts, evO, Nat.reduceLT, Nat.reduceEqDiff, reduceIte, fr0, okConst, okc, appendA, cellsA, boxA, allocA, storeA, loadA, fieldA, indexA, fieldV, indexV, partA, extractA, nilA, binA, intBin, unA, lenA, isAggD, isConst, Nat.reduceAdd, Nat.reduceMul, Nat.reduceLeDiff, Nat.reduceSub, Nat.reduceBEq, splice, reduceCtorEq, Int.reduceEq, Int.reduceLT, Int.reduceLE, Int.reduceNeg, Int.reduceBEq, String.reduceEq, eqFlat, tf, aOpI, Cf.solid_val, Cf.val_cells, List.toList_toArray, Cf.c0, Cf.c1, Cf.c2, Cf.c3, Cf.c4, Cf.c5, Cf.c6, Cf.c7, Cf.c8, Cf.c9, Cf.c10, Cf.len, Cf.take11, Cf.fold]
  refine hK _ _ ?_
  clear hK
  refine AWp.seq_region tok fun K hK => ?_
  refine aList_cut 4 fun K1 hK1 => ?_
  simp -implicitDefEqProofs only [vcT, wantedA, kp, kp2, kpS, kr, k1, k2, kL, kLP, kFn, kFn2, kSl, kSl2, kSl3, kC2, kP0, kP1, ev, evs, evParts, evO, Nat.reduceLT, Nat.reduceEqDiff, reduceIte, fr0, okConst, okc, appendA, cellsA, boxA, allocA, storeA, loadA, fieldA, indexA, fieldV, indexV, partA, extractA, nilA, binA, intBin, unA, lenA, isAggD, isConst, Nat.reduceAdd, Nat.reduceMul, Nat.reduceLeDiff, Nat.reduceSub, Nat.reduceBEq, splice, reduceCtorEq, Int.reduceEq, Int.reduceLT, Int.reduceLE, Int.reduceNeg, Int.reduceBEq, String.reduceEq, eqFlat, tf, aOpI, ty26, ty22, Cf.solid_val, Cf.val_cells, List.toList_toArray, Cf.c0, Cf.c1, Cf.c2, Cf.c3, Cf.c4, Cf.c5, Cf.c6, Cf.c7, Cf.c8, Cf.c9, Cf.c10, Cf.len, Cf.take11, Cf.fold, v8, l8]
  refine hK1 _ _ ?_
  clear hK1
  rcases Decidable.em ((ps.length : Int) > 40) with h1 | h1
  · simp -implicitDefEqProofs only [vcT, wantedA, kp, kp2, kpS, kr, k1, k2, kL, kLP, kFn, kFn2, kSl, kSl2, kSl3, kC2, kP0, kP1, ev, evs, evParts, evO, Nat.reduceLT, Nat.reduceEqDiff, reduceIte, fr0, okConst, okc, appendA, cellsA, boxA, allocA, storeA, loadA, fieldA, indexA, fieldV, indexV, partA, extractA, nilA, binA, intBin, unA, lenA, isAggD, isConst, Nat.reduceAdd, Nat.reduceMul, Nat.reduceLeDiff, Nat.reduceSub, Nat.reduceBEq, splice, reduceCtorEq, Int.reduceEq, Int.reduceLT, Int.reduceLE, Int.reduceNeg, Int.reduceBEq, String.reduceEq, eqFlat, tf, aOpI, h1, List.drop_succ_cons, List.drop_zero]
    refine hK _ _ ?_
    clear hK
    refine AWp.ret ?_
    simp -implicitDefEqProofs only [vcT, wantedA, kp, kp2, kpS, kr, k1, k2, kL, kLP, kFn, kFn2, kSl, kSl2, kSl3, kC2, kP0, kP1, ev, evs, evParts, evO, Nat.reduceLT, Nat.reduceEqDiff, reduceIte, fr0, okConst, okc, appendA, cellsA, boxA, allocA, storeA, loadA, fieldA, indexA, fieldV, indexV, partA, extractA, nilA, binA, intBin, unA, lenA, isAggD, isConst, Nat.reduceAdd, Nat.reduceMul, Nat.reduceLeDiff, Nat.reduceSub, Nat.reduceBEq, splice, reduceCtorEq, Int.reduceEq, Int.reduceLT, Int.reduceLE, Int.reduceNeg, Int.reduceBEq, String.reduceEq, eqFlat, tf, aOpI, ThenA, BlockA, EndA, ressA, resA, wrapA]
    exact ⟨⟨_, rfl⟩, .const _ rfl, true, rfl, by simp⟩
  refine aList_cut 4 fun K1 hK1 => ?_
  simp -implicitDefEqProofs only [vcT, wantedA, kp, kp2, kpS, kr, k1, k2, kL, kLP, kFn, kFn2, kSl, kSl2, kSl3, kC2, kP0, kP1, ev, evs, evParts, evO, Nat.reduceLT, Nat.reduceEqDiff, reduceIte, fr0, okConst, okc, appendA, cellsA, boxA, allocA, storeA, loadA, fieldA, indexA, fieldV, indexV, partA, extractA, nilA, binA, intBin, unA, lenA, isAggD, isConst, Nat.reduceAdd, Nat.reduceMul, Nat.reduceLeDiff, Nat.reduceSub, Nat.reduceBEq, splice, reduceCtorEq, Int.reduceEq, Int.reduceLT, Int.reduceLE, Int.reduceNeg, Int.reduceBEq, String.reduceEq, eqFlat, tf, aOpI, h1, ty26, ty23, Cf.solid_val, Cf.val_cells, List.toList_toArray, Cf.c0, Cf.c1, Cf.c2, Cf.c3, Cf.c4, Cf.c5, Cf.c6, Cf.c7, Cf.c8, Cf.c9, Cf.c10, Cf.len, Cf.take11, Cf.fold, v9, l9, List.drop_succ_cons, List.drop_zero]
  refine hK1 _ _ ?_
  clear hK1
  rcases Decidable.em ((qs.length : Int) > 60) with h2 | h2
  · simp -implicitDefEqProofs only [vcT, wantedA, kp, kp2, kpS, kr, k1, k2, kL, kLP, kFn, kFn2, kSl, kSl2, kSl3, kC2, kP0, kP1, ev, evs, evParts, evO, Nat.reduceLT, Nat.reduceEqDiff, reduceIte, fr0, okConst, okc, appendA, cellsA, boxA, allocA, storeA, loadA, fieldA, indexA, fieldV, indexV, partA, extractA, nilA, binA, intBin, unA, lenA, isAggD, isConst, Nat.reduceAdd, Nat.reduceMul, Nat.reduceLeDiff, Nat.reduceSub, Nat.reduceBEq, splice, reduceCtorEq, Int.reduceEq, Int.reduceLT, Int.reduceLE, Int.reduceNeg, Int.reduceBEq, String.reduceEq, eqFlat, tf, aOpI, h1, h2, List.drop_succ_cons, List.drop_zero]
    refine hK _ _ ?_
    clear hK
    refine AWp.ret ?_
    simp -implicitDefEqProofs only [vcT, wantedA, kp, kp2, kpS, kr, k1, k2, kL, kLP, kFn, kFn2, kSl, kSl2, kSl3, kC2, kP0, kP1, ev, evs, evParts, evO, Nat.reduceLT, Nat.reduceEqDiff, reduceIte, fr0, okConst, okc, appendA, cellsA, boxA, allocA, storeA, loadA, fieldA, indexA, fieldV, indexV, partA, extractA, nilA, binA, intBin, unA, lenA, isAggD, isConst, Nat.reduceAdd, Nat.reduceMul, Nat.reduceLeDiff, Nat.reduceSub, Nat.reduceBEq, splice, reduceCtorEq, Int.reduceEq, Int.reduceLT, Int.reduceLE, Int.reduceNeg, Int.reduceBEq, String.reduceEq, eqFlat, tf, aOpI, ThenA, BlockA, EndA, ressA, resA, wrapA]
    exact ⟨⟨_, rfl⟩, .const _ rfl, true, rfl, by simp⟩
  simp -implicitDefEqProofs only [vcT, wantedA, kp, kp2, kpS, kr, k1, k2, kL, kLP, kFn, kFn2, kSl, kSl2, kSl3, kC2, kP0, kP1, ev, evs, evParts, evO, Nat.reduceLT, Nat.reduceEqDiff, reduceIte, fr0, okConst, okc, appendA, cellsA, boxA, allocA, storeA, loadA, fieldA, indexA, fieldV, indexV, partA, extractA, nilA, binA, intBin, unA, lenA, isAggD, isConst, Nat.reduceAdd, Nat.reduceMul, Nat.reduceLeDiff, Nat.reduceSub, Nat.reduceBEq, splice, reduceCtorEq, Int.reduceEq, Int.reduceLT, Int.reduceLE, Int.reduceNeg, Int.reduceBEq, String.reduceEq, eqFlat, tf, aOpI, h1, h2, ty26, ty24, Cf.solid_val, Cf.val_cells, List.toList_toArray, Cf.c0, Cf.c1, Cf.c2, Cf.c3, Cf.c4, Cf.c5, Cf.c6, Cf.c7, Cf.c8, Cf.c9, Cf.c10, Cf.len, Cf.take11, Cf.fold, v10, l10, List.drop_succ_cons, List.drop_zero]
  refine hK _ _ ?_
  clear hK
  refine AWp.ret ?_
  simp -implicitDefEqProofs only [vcT, wantedA, kp, kp2, kpS, kr, k1, k2, kL, kLP, kFn, kFn2, kSl, kSl2, kSl3, kC2, kP0, kP1, ev, evs, evParts, evO, Nat.reduceLT, Nat.reduceEqDiff, reduceIte, fr0, okConst, okc, appendA, cellsA, boxA, allocA, storeA, loadA, fieldA, indexA, fieldV, indexV, partA, extractA, nilA, binA, intBin, unA, lenA, isAggD, isConst, Nat.reduceAdd, Nat.reduceMul, Nat.reduceLeDiff, Nat.reduceSub, Nat.reduceBEq, splice, reduceCtorEq, Int.reduceEq, Int.reduceLT, Int.reduceLE, Int.reduceNeg, Int.reduceBEq, String.reduceEq, eqFlat, tf, aOpI, ThenA, BlockA, EndA, ressA, resA, wrapA]
  exact ⟨⟨_, rfl⟩, .const _ rfl, _, rfl, fun h => by simp at h; omega⟩

def upB (a b d : Int) : Bool := decide (a ≥ b) && decide (a ≤ d)
theorem callUp (a b d : Int) (S : St) : ACalls Try.prog 30 [.int .i64 a, .int .i64 b, .int .i64 d] S (fun r S' => S' = S ∧ r = .bool (upB a b d)) := call30 a b d S
end Go.Proofs.Ytoikfhpbkpljlaa
