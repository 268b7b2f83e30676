/- The law of frames spoiled: walked. -/
import Derived.Test.YtpgiiidnimbdgaaAbF25
namespace Go.Proofs.Ytpgiiidnimbdgaa
open Go.Ab
set_option linter.unusedSimpArgs false
set_option linter.unusedVariables false
set_option maxRecDepth 4000


theorem rem_nat (a b : Nat) : ((a : Int).tmod (b : Int)) = ((a % b : Nat) : Int) := by
  rw [Int.tmod_eq_emod_of_nonneg (by omega)]
  rfl
theorem xor8 {a b : Nat} (ha : a < 256) (hb : b < 256) : bits .xor .u8 (a : Int) (b : Int) = ((a ^^^ b : Nat) : Int) := by
  have hx : a ^^^ b < 2 ^ 8 := Nat.xor_lt_two_pow (n := 8) (by omega) (by omega)
  have ha' : a % 2 ^ IntKind.bits .u8 = a := Nat.mod_eq_of_lt ha
  have hb' : b % 2 ^ IntKind.bits .u8 = b := Nat.mod_eq_of_lt hb
  simp only [bits, BitVec.ofInt_natCast, BitVec.toNat_xor, BitVec.toNat_ofNat, ha', hb']
  rw [wrap_u8_nat]
  omega
theorem bys_set (l : List Nat) (i x : Nat) : (bys l).set i (.int .u8 (x : Int)) = bys (l.set i x) := by
  unfold bys
  rw [List.map_set]
theorem tr_spoil : trS [(40, -1), (6, -1)] = (⟨#[52, 48, 64, 45, 49, 62, 54, 64, 45, 49]⟩ : ByteArray) := by kernel_rfl

theorem enter7 (cargs : Array Value) (w : World) : (callFunc 7 cargs).run Try.prog w = .ok (.enter 7 cargs) w := by kernel_rfl
set_option maxHeartbeats 2000000 in
theorem call7 {S : St} {f : Frm} {vm vr : Value} (h : FrAt S f vm vr) (hf : FrmOk f) (hld : ∀ m ∈ f.ms, m.data.length ≤ 140737488351232) (cut : Int) (by_ : Nat) (hby : by_ < 256) :
    ACalls Try.prog 7 [frmV f vm vr, .int .i64 cut, .int .u8 (by_ : Int)] S (fun r S' => S' = S ∧ r = .bool true) := by
  refine ACalls.ofK tok enter7 Try.func7 rfl (m := 60) rfl (by simp) (rs := [.tmp 6]) rfl fun hc ha => ?_
  clear ha
  have hml := h.ms.len
  have hrl := h.rs.len
  obtain ⟨⟨o1, o2⟩, o3, o4⟩ := frm_one h
  simp only [frmV]
  refine AWp.seq_region tok fun K hK => ?_
  simp -implicitDefEqProofs only [vcT, wantedA, kp, kp2, kpS, kr, k1, k2, kL, kLP, kFn, kFn2, kSl, kSl2, kSl3, kC2, kP0, kP1, ev, evs, evParts, evO, Nat.reduceLT, Nat.reduceEqDiff, reduceIte, fr0, okConst, okc, appendA, cellsA, boxA, allocA, storeA, loadA, fieldA, indexA, fieldV, indexV, partA, extractA, nilA, binA, intBin, unA, lenA, isAggD, isConst, Nat.reduceAdd, Nat.reduceMul, Nat.reduceLeDiff, Nat.reduceSub, Nat.reduceBEq, splice, reduceCtorEq, Int.reduceEq, Int.reduceLT, Int.reduceLE, Int.reduceNeg, Int.reduceBEq, String.reduceEq, eqFlat, tf, aOpI]
  refine hK _ _ ?_
  clear hK
  have hkb : Keeps S (S ++ [AObj.row 34 true (frmC f vm vr)]) := Keeps.append _ _
  have hbx : (S ++ [AObj.row 34 true (frmC f vm vr)])[S.length]? = some (.row 34 true (frmC f vm vr)) := by simp
  simp only [frmC] at hkb hbx
  generalize (S ++ [AObj.row 34 true [Value.int IntKind.u8 f.snd, .int .u32 f.rnd, .int .u8 f.mem, vm, .int .u8 f.c.kind, .int .u8 f.c.key, .int .u16 f.c.val, .int .u16 f.c.old, vr]]) = S1 at *
  have h1 := h.keeps hkb
  refine AWp.seqK fun K0 hK0 => ?_
  refine AWp.seq_region tok fun K hK => ?_
  refine aList_cut 1 fun K1 hK1 => ?_
  simp -implicitDefEqProofs only [vcT, wantedA, kp, kp2, kpS, kr, k1, k2, kL, kLP, kFn, kFn2, kSl, kSl2, kSl3, kC2, kP0, kP1, ev, evs, evParts, evO, Nat.reduceLT, Nat.reduceEqDiff, reduceIte, fr0, okConst, okc, appendA, cellsA, boxA, allocA, storeA, loadA, fieldA, indexA, fieldV, indexV, partA, extractA, nilA, binA, intBin, unA, lenA, isAggD, isConst, Nat.reduceAdd, Nat.reduceMul, Nat.reduceLeDiff, Nat.reduceSub, Nat.reduceBEq, splice, reduceCtorEq, Int.reduceEq, Int.reduceLT, Int.reduceLE, Int.reduceNeg, Int.reduceBEq, String.reduceEq, eqFlat, tf, aOpI, Array.toList_empty, List.drop_succ_cons, List.drop_zero]
  refine (call11 _).mono ?_
  rintro x S' ⟨rfl, rfl⟩
  refine hK1 _ _ ?_
  clear hK1
  simp -implicitDefEqProofs only [vcT, wantedA, kp, kp2, kpS, kr, k1, k2, kL, kLP, kFn, kFn2, kSl, kSl2, kSl3, kC2, kP0, kP1, ev, evs, evParts, evO, Nat.reduceLT, Nat.reduceEqDiff, reduceIte, fr0, okConst, okc, appendA, cellsA, boxA, allocA, storeA, loadA, fieldA, indexA, fieldV, indexV, partA, extractA, nilA, binA, intBin, unA, lenA, isAggD, isConst, Nat.reduceAdd, Nat.reduceMul, Nat.reduceLeDiff, Nat.reduceSub, Nat.reduceBEq, splice, reduceCtorEq, Int.reduceEq, Int.reduceLT, Int.reduceLE, Int.reduceNeg, Int.reduceBEq, String.reduceEq, eqFlat, tf, aOpI, List.drop_succ_cons, List.drop_zero, Bool.not_true]
  refine hK _ _ ?_
  clear hK
  refine AWp.condF (by simp -implicitDefEqProofs only [vcT, wantedA, kp, kp2, kpS, kr, k1, k2, kL, kLP, kFn, kFn2, kSl, kSl2, kSl3, kC2, kP0, kP1, ev, evs, evParts, evO, Nat.reduceLT, Nat.reduceEqDiff, reduceIte, fr0, okConst, okc, appendA, cellsA, boxA, allocA, storeA, loadA, fieldA, indexA, fieldV, indexV, partA, extractA, nilA, binA, intBin, unA, lenA, isAggD, isConst, Nat.reduceAdd, Nat.reduceMul, Nat.reduceLeDiff, Nat.reduceSub, Nat.reduceBEq, splice, reduceCtorEq, Int.reduceEq, Int.reduceLT, Int.reduceLE, Int.reduceNeg, Int.reduceBEq, String.reduceEq, eqFlat, tf, aOpI]) ?_
  refine AWp.skip ?_
  refine hK0 _ _ ?_
  clear hK0
  refine AWp.seqK fun K0 hK0 => ?_
  by_cases h5 : (f.ms.length : Int) > 300
  · refine AWp.seq_region tok fun K hK => ?_
    refine aList_cut 7 fun K1 hK1 => ?_
    simp -implicitDefEqProofs only [vcT, wantedA, kp, kp2, kpS, kr, k1, k2, kL, kLP, kFn, kFn2, kSl, kSl2, kSl3, kC2, kP0, kP1, ev, evs, evParts, evO, Nat.reduceLT, Nat.reduceEqDiff, reduceIte, fr0, okConst, okc, appendA, cellsA, boxA, allocA, storeA, loadA, fieldA, indexA, fieldV, indexV, partA, extractA, nilA, binA, intBin, unA, isAggD, isConst, Nat.reduceAdd, Nat.reduceMul, Nat.reduceLeDiff, Nat.reduceSub, Nat.reduceBEq, splice, reduceCtorEq, Int.reduceEq, Int.reduceLT, Int.reduceLE, Int.reduceNeg, Int.reduceBEq, String.reduceEq, eqFlat, tf, aOpI, hbx, ty34, ty27, hml, h5]
    refine hK1 _ _ ?_
    clear hK1
    simp -implicitDefEqProofs only [vcT, wantedA, kp, kp2, kpS, kr, k1, k2, kL, kLP, kFn, kFn2, kSl, kSl2, kSl3, kC2, kP0, kP1, ev, evs, evParts, evO, Nat.reduceLT, Nat.reduceEqDiff, reduceIte, fr0, okConst, okc, appendA, cellsA, boxA, allocA, storeA, loadA, fieldA, indexA, fieldV, indexV, partA, extractA, nilA, binA, intBin, unA, lenA, isAggD, isConst, Nat.reduceAdd, Nat.reduceMul, Nat.reduceLeDiff, Nat.reduceSub, Nat.reduceBEq, splice, reduceCtorEq, Int.reduceEq, Int.reduceLT, Int.reduceLE, Int.reduceNeg, Int.reduceBEq, String.reduceEq, eqFlat, tf, aOpI, List.drop_succ_cons, List.drop_zero]
    refine hK _ _ ?_
    clear hK
    refine AWp.condT (by simp -implicitDefEqProofs only [vcT, wantedA, kp, kp2, kpS, kr, k1, k2, kL, kLP, kFn, kFn2, kSl, kSl2, kSl3, kC2, kP0, kP1, ev, evs, evParts, evO, Nat.reduceLT, Nat.reduceEqDiff, reduceIte, fr0, okConst, okc, appendA, cellsA, boxA, allocA, storeA, loadA, fieldA, indexA, fieldV, indexV, partA, extractA, nilA, binA, intBin, unA, lenA, isAggD, isConst, Nat.reduceAdd, Nat.reduceMul, Nat.reduceLeDiff, Nat.reduceSub, Nat.reduceBEq, splice, reduceCtorEq, Int.reduceEq, Int.reduceLT, Int.reduceLE, Int.reduceNeg, Int.reduceBEq, String.reduceEq, eqFlat, tf, aOpI]) ?_
    refine AWp.seq_region tok fun K hK => ?_
    simp -implicitDefEqProofs only [vcT, wantedA, kp, kp2, kpS, kr, k1, k2, kL, kLP, kFn, kFn2, kSl, kSl2, kSl3, kC2, kP0, kP1, ev, evs, evParts, evO, Nat.reduceLT, Nat.reduceEqDiff, reduceIte, fr0, okConst, okc, appendA, cellsA, boxA, allocA, storeA, loadA, fieldA, indexA, fieldV, indexV, partA, extractA, nilA, binA, intBin, unA, lenA, isAggD, isConst, Nat.reduceAdd, Nat.reduceMul, Nat.reduceLeDiff, Nat.reduceSub, Nat.reduceBEq, splice, reduceCtorEq, Int.reduceEq, Int.reduceLT, Int.reduceLE, Int.reduceNeg, Int.reduceBEq, String.reduceEq, eqFlat, tf, aOpI]
    refine hK _ _ ?_
    clear hK
    refine AWp.ret ?_
    simp -implicitDefEqProofs only [vcT, wantedA, kp, kp2, kpS, kr, k1, k2, kL, kLP, kFn, kFn2, kSl, kSl2, kSl3, kC2, kP0, kP1, ev, evs, evParts, evO, Nat.reduceLT, Nat.reduceEqDiff, reduceIte, fr0, okConst, okc, appendA, cellsA, boxA, allocA, storeA, loadA, fieldA, indexA, fieldV, indexV, partA, extractA, nilA, binA, intBin, unA, lenA, isAggD, isConst, Nat.reduceAdd, Nat.reduceMul, Nat.reduceLeDiff, Nat.reduceSub, Nat.reduceBEq, splice, reduceCtorEq, Int.reduceEq, Int.reduceLT, Int.reduceLE, Int.reduceNeg, Int.reduceBEq, String.reduceEq, eqFlat, tf, aOpI, ThenA, BlockA, EndA, ressA, resA, wrapA]
    exact ⟨hkb, .const _ rfl⟩
  by_cases h6 : (f.rs.length : Int) > 300
  · refine AWp.seq_region tok fun K hK => ?_
    refine aList_cut 7 fun K1 hK1 => ?_
    simp -implicitDefEqProofs only [vcT, wantedA, kp, kp2, kpS, kr, k1, k2, kL, kLP, kFn, kFn2, kSl, kSl2, kSl3, kC2, kP0, kP1, ev, evs, evParts, evO, Nat.reduceLT, Nat.reduceEqDiff, reduceIte, fr0, okConst, okc, appendA, cellsA, boxA, allocA, storeA, loadA, fieldA, indexA, fieldV, indexV, partA, extractA, nilA, binA, intBin, unA, isAggD, isConst, Nat.reduceAdd, Nat.reduceMul, Nat.reduceLeDiff, Nat.reduceSub, Nat.reduceBEq, splice, reduceCtorEq, Int.reduceEq, Int.reduceLT, Int.reduceLE, Int.reduceNeg, Int.reduceBEq, String.reduceEq, eqFlat, tf, aOpI, hbx, ty34, ty27, ty32, hml, hrl, h5, h6]
    refine hK1 _ _ ?_
    clear hK1
    simp -implicitDefEqProofs only [vcT, wantedA, kp, kp2, kpS, kr, k1, k2, kL, kLP, kFn, kFn2, kSl, kSl2, kSl3, kC2, kP0, kP1, ev, evs, evParts, evO, Nat.reduceLT, Nat.reduceEqDiff, reduceIte, fr0, okConst, okc, appendA, cellsA, boxA, allocA, storeA, loadA, fieldA, indexA, fieldV, indexV, partA, extractA, nilA, binA, intBin, unA, isAggD, isConst, Nat.reduceAdd, Nat.reduceMul, Nat.reduceLeDiff, Nat.reduceSub, Nat.reduceBEq, splice, reduceCtorEq, Int.reduceEq, Int.reduceLT, Int.reduceLE, Int.reduceNeg, Int.reduceBEq, String.reduceEq, eqFlat, tf, aOpI, hbx, ty34, ty27, ty32, hml, hrl, h5, h6, List.drop_succ_cons, List.drop_zero]
    refine hK _ _ ?_
    clear hK
    refine AWp.condT (by simp -implicitDefEqProofs only [vcT, wantedA, kp, kp2, kpS, kr, k1, k2, kL, kLP, kFn, kFn2, kSl, kSl2, kSl3, kC2, kP0, kP1, ev, evs, evParts, evO, Nat.reduceLT, Nat.reduceEqDiff, reduceIte, fr0, okConst, okc, appendA, cellsA, boxA, allocA, storeA, loadA, fieldA, indexA, fieldV, indexV, partA, extractA, nilA, binA, intBin, unA, lenA, isAggD, isConst, Nat.reduceAdd, Nat.reduceMul, Nat.reduceLeDiff, Nat.reduceSub, Nat.reduceBEq, splice, reduceCtorEq, Int.reduceEq, Int.reduceLT, Int.reduceLE, Int.reduceNeg, Int.reduceBEq, String.reduceEq, eqFlat, tf, aOpI]) ?_
    refine AWp.seq_region tok fun K hK => ?_
    simp -implicitDefEqProofs only [vcT, wantedA, kp, kp2, kpS, kr, k1, k2, kL, kLP, kFn, kFn2, kSl, kSl2, kSl3, kC2, kP0, kP1, ev, evs, evParts, evO, Nat.reduceLT, Nat.reduceEqDiff, reduceIte, fr0, okConst, okc, appendA, cellsA, boxA, allocA, storeA, loadA, fieldA, indexA, fieldV, indexV, partA, extractA, nilA, binA, intBin, unA, lenA, isAggD, isConst, Nat.reduceAdd, Nat.reduceMul, Nat.reduceLeDiff, Nat.reduceSub, Nat.reduceBEq, splice, reduceCtorEq, Int.reduceEq, Int.reduceLT, Int.reduceLE, Int.reduceNeg, Int.reduceBEq, String.reduceEq, eqFlat, tf, aOpI]
    refine hK _ _ ?_
    clear hK
    refine AWp.ret ?_
    simp -implicitDefEqProofs only [vcT, wantedA, kp, kp2, kpS, kr, k1, k2, kL, kLP, kFn, kFn2, kSl, kSl2, kSl3, kC2, kP0, kP1, ev, evs, evParts, evO, Nat.reduceLT, Nat.reduceEqDiff, reduceIte, fr0, okConst, okc, appendA, cellsA, boxA, allocA, storeA, loadA, fieldA, indexA, fieldV, indexV, partA, extractA, nilA, binA, intBin, unA, lenA, isAggD, isConst, Nat.reduceAdd, Nat.reduceMul, Nat.reduceLeDiff, Nat.reduceSub, Nat.reduceBEq, splice, reduceCtorEq, Int.reduceEq, Int.reduceLT, Int.reduceLE, Int.reduceNeg, Int.reduceBEq, String.reduceEq, eqFlat, tf, aOpI, ThenA, BlockA, EndA, ressA, resA, wrapA]
    exact ⟨hkb, .const _ rfl⟩
  by_cases h7 : ((by_ : Int) == 0) = true
  · refine AWp.seq_region tok fun K hK => ?_
    refine aList_cut 7 fun K1 hK1 => ?_
    simp -implicitDefEqProofs only [vcT, wantedA, kp, kp2, kpS, kr, k1, k2, kL, kLP, kFn, kFn2, kSl, kSl2, kSl3, kC2, kP0, kP1, ev, evs, evParts, evO, Nat.reduceLT, Nat.reduceEqDiff, reduceIte, fr0, okConst, okc, appendA, cellsA, boxA, allocA, storeA, loadA, fieldA, indexA, fieldV, indexV, partA, extractA, nilA, binA, intBin, unA, isAggD, isConst, Nat.reduceAdd, Nat.reduceMul, Nat.reduceLeDiff, Nat.reduceSub, Nat.reduceBEq, splice, reduceCtorEq, Int.reduceEq, Int.reduceLT, Int.reduceLE, Int.reduceNeg, Int.reduceBEq, String.reduceEq, eqFlat, tf, aOpI, hbx, ty34, ty27, ty32, hml, hrl, h5, h6]
    refine hK1 _ _ ?_
    clear hK1
    simp -implicitDefEqProofs only [vcT, wantedA, kp, kp2, kpS, kr, k1, k2, kL, kLP, kFn, kFn2, kSl, kSl2, kSl3, kC2, kP0, kP1, ev, evs, evParts, evO, Nat.reduceLT, Nat.reduceEqDiff, reduceIte, fr0, okConst, okc, appendA, cellsA, boxA, allocA, storeA, loadA, fieldA, indexA, fieldV, indexV, partA, extractA, nilA, binA, intBin, unA, isAggD, isConst, Nat.reduceAdd, Nat.reduceMul, Nat.reduceLeDiff, Nat.reduceSub, Nat.reduceBEq, splice, reduceCtorEq, Int.reduceEq, Int.reduceLT, Int.reduceLE, Int.reduceNeg, Int.reduceBEq, String.reduceEq, eqFlat, tf, aOpI, hbx, ty34, ty27, ty32, hml, hrl, h5, h6, h7, List.drop_succ_cons, List.drop_zero]
    refine hK _ _ ?_
    clear hK
    refine AWp.condT (by simp -implicitDefEqProofs only [vcT, wantedA, kp, kp2, kpS, kr, k1, k2, kL, kLP, kFn, kFn2, kSl, kSl2, kSl3, kC2, kP0, kP1, ev, evs, evParts, evO, Nat.reduceLT, Nat.reduceEqDiff, reduceIte, fr0, okConst, okc, appendA, cellsA, boxA, allocA, storeA, loadA, fieldA, indexA, fieldV, indexV, partA, extractA, nilA, binA, intBin, unA, lenA, isAggD, isConst, Nat.reduceAdd, Nat.reduceMul, Nat.reduceLeDiff, Nat.reduceSub, Nat.reduceBEq, splice, reduceCtorEq, Int.reduceEq, Int.reduceLT, Int.reduceLE, Int.reduceNeg, Int.reduceBEq, String.reduceEq, eqFlat, tf, aOpI]) ?_
    refine AWp.seq_region tok fun K hK => ?_
    simp -implicitDefEqProofs only [vcT, wantedA, kp, kp2, kpS, kr, k1, k2, kL, kLP, kFn, kFn2, kSl, kSl2, kSl3, kC2, kP0, kP1, ev, evs, evParts, evO, Nat.reduceLT, Nat.reduceEqDiff, reduceIte, fr0, okConst, okc, appendA, cellsA, boxA, allocA, storeA, loadA, fieldA, indexA, fieldV, indexV, partA, extractA, nilA, binA, intBin, unA, lenA, isAggD, isConst, Nat.reduceAdd, Nat.reduceMul, Nat.reduceLeDiff, Nat.reduceSub, Nat.reduceBEq, splice, reduceCtorEq, Int.reduceEq, Int.reduceLT, Int.reduceLE, Int.reduceNeg, Int.reduceBEq, String.reduceEq, eqFlat, tf, aOpI]
    refine hK _ _ ?_
    clear hK
    refine AWp.ret ?_
    simp -implicitDefEqProofs only [vcT, wantedA, kp, kp2, kpS, kr, k1, k2, kL, kLP, kFn, kFn2, kSl, kSl2, kSl3, kC2, kP0, kP1, ev, evs, evParts, evO, Nat.reduceLT, Nat.reduceEqDiff, reduceIte, fr0, okConst, okc, appendA, cellsA, boxA, allocA, storeA, loadA, fieldA, indexA, fieldV, indexV, partA, extractA, nilA, binA, intBin, unA, lenA, isAggD, isConst, Nat.reduceAdd, Nat.reduceMul, Nat.reduceLeDiff, Nat.reduceSub, Nat.reduceBEq, splice, reduceCtorEq, Int.reduceEq, Int.reduceLT, Int.reduceLE, Int.reduceNeg, Int.reduceBEq, String.reduceEq, eqFlat, tf, aOpI, ThenA, BlockA, EndA, ressA, resA, wrapA]
    exact ⟨hkb, .const _ rfl⟩
  have h7' : ((by_ : Int) == 0) = false := by simpa using h7
  have hby0 : by_ ≠ 0 := by simpa using h7
  refine AWp.seq_region tok fun K hK => ?_
  refine aList_cut 7 fun K1 hK1 => ?_
  simp -implicitDefEqProofs only [vcT, wantedA, kp, kp2, kpS, kr, k1, k2, kL, kLP, kFn, kFn2, kSl, kSl2, kSl3, kC2, kP0, kP1, ev, evs, evParts, evO, Nat.reduceLT, Nat.reduceEqDiff, reduceIte, fr0, okConst, okc, appendA, cellsA, boxA, allocA, storeA, loadA, fieldA, indexA, fieldV, indexV, partA, extractA, nilA, binA, intBin, unA, isAggD, isConst, Nat.reduceAdd, Nat.reduceMul, Nat.reduceLeDiff, Nat.reduceSub, Nat.reduceBEq, splice, reduceCtorEq, Int.reduceEq, Int.reduceLT, Int.reduceLE, Int.reduceNeg, Int.reduceBEq, String.reduceEq, eqFlat, tf, aOpI, hbx, ty34, ty27, ty32, hml, hrl, h5, h6]
  refine hK1 _ _ ?_
  clear hK1
  simp -implicitDefEqProofs only [vcT, wantedA, kp, kp2, kpS, kr, k1, k2, kL, kLP, kFn, kFn2, kSl, kSl2, kSl3, kC2, kP0, kP1, ev, evs, evParts, evO, Nat.reduceLT, Nat.reduceEqDiff, reduceIte, fr0, okConst, okc, appendA, cellsA, boxA, allocA, storeA, loadA, fieldA, indexA, fieldV, indexV, partA, extractA, nilA, binA, intBin, unA, isAggD, isConst, Nat.reduceAdd, Nat.reduceMul, Nat.reduceLeDiff, Nat.reduceSub, Nat.reduceBEq, splice, reduceCtorEq, Int.reduceEq, Int.reduceLT, Int.reduceLE, Int.reduceNeg, Int.reduceBEq, String.reduceEq, eqFlat, tf, aOpI, hbx, ty34, ty27, ty32, hml, hrl, h5, h6, h7', List.drop_succ_cons, List.drop_zero]
  refine hK _ _ ?_
  clear hK
  refine AWp.condF (by simp -implicitDefEqProofs only [vcT, wantedA, kp, kp2, kpS, kr, k1, k2, kL, kLP, kFn, kFn2, kSl, kSl2, kSl3, kC2, kP0, kP1, ev, evs, evParts, evO, Nat.reduceLT, Nat.reduceEqDiff, reduceIte, fr0, okConst, okc, appendA, cellsA, boxA, allocA, storeA, loadA, fieldA, indexA, fieldV, indexV, partA, extractA, nilA, binA, intBin, unA, lenA, isAggD, isConst, Nat.reduceAdd, Nat.reduceMul, Nat.reduceLeDiff, Nat.reduceSub, Nat.reduceBEq, splice, reduceCtorEq, Int.reduceEq, Int.reduceLT, Int.reduceLE, Int.reduceNeg, Int.reduceBEq, String.reduceEq, eqFlat, tf, aOpI]) ?_
  refine AWp.skip ?_
  refine hK0 _ _ ?_
  clear hK0
  obtain ⟨n1, n2⟩ := big_frame (f := f) (by omega)
  refine AWp.seq_region tok fun K hK => ?_
  refine aList_cut 1 fun K1 hK1 => ?_
  simp -implicitDefEqProofs only [vcT, wantedA, kp, kp2, kpS, kr, k1, k2, kL, kLP, kFn, kFn2, kSl, kSl2, kSl3, kC2, kP0, kP1, ev, evs, evParts, evO, Nat.reduceLT, Nat.reduceEqDiff, reduceIte, fr0, okConst, okc, appendA, cellsA, boxA, allocA, storeA, loadA, fieldA, indexA, fieldV, indexV, partA, extractA, nilA, binA, intBin, unA, lenA, isAggD, isConst, Nat.reduceAdd, Nat.reduceMul, Nat.reduceLeDiff, Nat.reduceSub, Nat.reduceBEq, splice, reduceCtorEq, Int.reduceEq, Int.reduceLT, Int.reduceLE, Int.reduceNeg, Int.reduceBEq, String.reduceEq, eqFlat, tf, aOpI, hbx, ty34]
  refine hK1 _ _ ?_
  clear hK1
  refine aList_cut 1 fun K1 hK1 => ?_
  simp -implicitDefEqProofs only [vcT, wantedA, kp, kp2, kpS, kr, k1, k2, kL, kLP, kFn, kFn2, kSl, kSl2, kSl3, kC2, kP0, kP1, ev, evs, evParts, evO, Nat.reduceLT, Nat.reduceEqDiff, reduceIte, fr0, okConst, okc, appendA, cellsA, boxA, allocA, storeA, loadA, fieldA, indexA, fieldV, indexV, partA, extractA, nilA, binA, intBin, unA, lenA, isAggD, isConst, Nat.reduceAdd, Nat.reduceMul, Nat.reduceLeDiff, Nat.reduceSub, Nat.reduceBEq, splice, reduceCtorEq, Int.reduceEq, Int.reduceLT, Int.reduceLE, Int.reduceNeg, Int.reduceBEq, String.reduceEq, eqFlat, tf, aOpI, Array.toList_empty, List.drop_succ_cons, List.drop_zero]
  refine (call18 h1 n1 n2 (fun m hm => by have := hld m hm; omega)).mono ?_
  rintro x S2 ⟨hk2, um, ur, rfl, h2⟩
  replace hk2 := hkb.trans hk2
  refine hK1 _ _ ?_
  clear hK1
  refine aList_cut 1 fun K1 hK1 => ?_
  simp -implicitDefEqProofs only [vcT, wantedA, kp, kp2, kpS, kr, k1, k2, kL, kLP, kFn, kFn2, kSl, kSl2, kSl3, kC2, kP0, kP1, ev, evs, evParts, evO, Nat.reduceLT, Nat.reduceEqDiff, reduceIte, fr0, okConst, okc, appendA, cellsA, boxA, allocA, storeA, loadA, fieldA, indexA, fieldV, indexV, partA, extractA, nilA, binA, intBin, unA, lenA, isAggD, isConst, Nat.reduceAdd, Nat.reduceMul, Nat.reduceLeDiff, Nat.reduceSub, Nat.reduceBEq, splice, reduceCtorEq, Int.reduceEq, Int.reduceLT, Int.reduceLE, Int.reduceNeg, Int.reduceBEq, String.reduceEq, eqFlat, tf, aOpI, Array.toList_empty, List.drop_succ_cons, List.drop_zero]
  refine (call17 h2 hf).mono ?_
  rintro x S3 ⟨hk3, hx⟩
  replace hk3 := hk2.trans hk3
  rcases hx with ⟨hce, u, rfl, hu⟩ | ⟨hce, w, rfl, hw⟩
  rotate_left
  · obtain ⟨oe, cv, rfl, _⟩ := hw
    refine hK1 _ _ ?_
    clear hK1
    simp -implicitDefEqProofs only [vcT, wantedA, kp, kp2, kpS, kr, k1, k2, kL, kLP, kFn, kFn2, kSl, kSl2, kSl3, kC2, kP0, kP1, ev, evs, evParts, evO, Nat.reduceLT, Nat.reduceEqDiff, reduceIte, fr0, okConst, okc, appendA, cellsA, boxA, allocA, storeA, loadA, fieldA, indexA, fieldV, indexV, partA, extractA, nilA, binA, intBin, unA, lenA, isAggD, isConst, Nat.reduceAdd, Nat.reduceMul, Nat.reduceLeDiff, Nat.reduceSub, Nat.reduceBEq, splice, reduceCtorEq, Int.reduceEq, Int.reduceLT, Int.reduceLE, Int.reduceNeg, Int.reduceBEq, String.reduceEq, eqFlat, tf, aOpI, List.drop_succ_cons, List.drop_zero]
    refine hK _ _ ?_
    clear hK
    refine AWp.seqK fun K0 hK0 => ?_
    refine AWp.seq_region tok fun K hK => ?_
    simp -implicitDefEqProofs only [vcT, wantedA, kp, kp2, kpS, kr, k1, k2, kL, kLP, kFn, kFn2, kSl, kSl2, kSl3, kC2, kP0, kP1, ev, evs, evParts, evO, Nat.reduceLT, Nat.reduceEqDiff, reduceIte, fr0, okConst, okc, appendA, cellsA, boxA, allocA, storeA, loadA, fieldA, indexA, fieldV, indexV, partA, extractA, nilA, binA, intBin, unA, lenA, isAggD, isConst, Nat.reduceAdd, Nat.reduceMul, Nat.reduceLeDiff, Nat.reduceSub, Nat.reduceBEq, splice, reduceCtorEq, Int.reduceEq, Int.reduceLT, Int.reduceLE, Int.reduceNeg, Int.reduceBEq, String.reduceEq, eqFlat, tf, aOpI, ty36, isIfaceD]
    refine hK _ _ ?_
    clear hK
    refine AWp.condT (by simp -implicitDefEqProofs only [vcT, wantedA, kp, kp2, kpS, kr, k1, k2, kL, kLP, kFn, kFn2, kSl, kSl2, kSl3, kC2, kP0, kP1, ev, evs, evParts, evO, Nat.reduceLT, Nat.reduceEqDiff, reduceIte, fr0, okConst, okc, appendA, cellsA, boxA, allocA, storeA, loadA, fieldA, indexA, fieldV, indexV, partA, extractA, nilA, binA, intBin, unA, lenA, isAggD, isConst, Nat.reduceAdd, Nat.reduceMul, Nat.reduceLeDiff, Nat.reduceSub, Nat.reduceBEq, splice, reduceCtorEq, Int.reduceEq, Int.reduceLT, Int.reduceLE, Int.reduceNeg, Int.reduceBEq, String.reduceEq, eqFlat, tf, aOpI]) ?_
    refine AWp.seq_region tok fun K hK => ?_
    simp -implicitDefEqProofs only [vcT, wantedA, kp, kp2, kpS, kr, k1, k2, kL, kLP, kFn, kFn2, kSl, kSl2, kSl3, kC2, kP0, kP1, ev, evs, evParts, evO, Nat.reduceLT, Nat.reduceEqDiff, reduceIte, fr0, okConst, okc, appendA, cellsA, boxA, allocA, storeA, loadA, fieldA, indexA, fieldV, indexV, partA, extractA, nilA, binA, intBin, unA, lenA, isAggD, isConst, Nat.reduceAdd, Nat.reduceMul, Nat.reduceLeDiff, Nat.reduceSub, Nat.reduceBEq, splice, reduceCtorEq, Int.reduceEq, Int.reduceLT, Int.reduceLE, Int.reduceNeg, Int.reduceBEq, String.reduceEq, eqFlat, tf, aOpI, ty22]
    refine hK _ _ ?_
    clear hK
    refine AWp.ret ?_
    simp -implicitDefEqProofs only [vcT, wantedA, kp, kp2, kpS, kr, k1, k2, kL, kLP, kFn, kFn2, kSl, kSl2, kSl3, kC2, kP0, kP1, ev, evs, evParts, evO, Nat.reduceLT, Nat.reduceEqDiff, reduceIte, fr0, okConst, okc, appendA, cellsA, boxA, allocA, storeA, loadA, fieldA, indexA, fieldV, indexV, partA, extractA, nilA, binA, intBin, unA, lenA, isAggD, isConst, Nat.reduceAdd, Nat.reduceMul, Nat.reduceLeDiff, Nat.reduceSub, Nat.reduceBEq, splice, reduceCtorEq, Int.reduceEq, Int.reduceLT, Int.reduceLE, Int.reduceNeg, Int.reduceBEq, String.reduceEq, eqFlat, tf, aOpI, ThenA, BlockA, EndA, ressA, resA, wrapA]
    exact ⟨hk3, .const _ rfl⟩
  have hlen2 := hu.slB.len
  obtain ⟨ob, hob, rfl, hrow⟩ := hu
  have hbb := bodyB_by hf hce
  have hbl := bodyB_len hce
  have hel : (encB f).length = (bodyB f).length + 4 := by unfold encB; rw [sealB_len]
  have heb : IsBy (encB f) := sealB_by hbb
  have hsp := @openB_spoil (bodyB f) hbb
  have heq : sealB (bodyB f) = encB f := rfl
  rw [heq] at hsp
  have hsl : S.length ≤ ob := by have := hk2.1; omega
  clear heq
  generalize encB f = L at *
  have hLl : L.length ≤ 2000 := by omega
  have hL0 : 0 < L.length := by omega
  clear hel hbl hbb
  refine hK1 _ _ ?_
  clear hK1
  simp -implicitDefEqProofs only [vcT, wantedA, kp, kp2, kpS, kr, k1, k2, kL, kLP, kFn, kFn2, kSl, kSl2, kSl3, kC2, kP0, kP1, ev, evs, evParts, evO, Nat.reduceLT, Nat.reduceEqDiff, reduceIte, fr0, okConst, okc, appendA, cellsA, boxA, allocA, storeA, loadA, fieldA, indexA, fieldV, indexV, partA, extractA, nilA, binA, intBin, unA, lenA, isAggD, isConst, Nat.reduceAdd, Nat.reduceMul, Nat.reduceLeDiff, Nat.reduceSub, Nat.reduceBEq, splice, reduceCtorEq, Int.reduceEq, Int.reduceLT, Int.reduceLE, Int.reduceNeg, Int.reduceBEq, String.reduceEq, eqFlat, tf, aOpI, List.drop_succ_cons, List.drop_zero]
  refine hK _ _ ?_
  clear hK
  refine AWp.seqK fun K0 hK0 => ?_
  refine AWp.seq_region tok fun K hK => ?_
  simp -implicitDefEqProofs only [vcT, wantedA, kp, kp2, kpS, kr, k1, k2, kL, kLP, kFn, kFn2, kSl, kSl2, kSl3, kC2, kP0, kP1, ev, evs, evParts, evO, Nat.reduceLT, Nat.reduceEqDiff, reduceIte, fr0, okConst, okc, appendA, cellsA, boxA, allocA, storeA, loadA, fieldA, indexA, fieldV, indexV, partA, extractA, nilA, binA, intBin, unA, lenA, isAggD, isConst, Nat.reduceAdd, Nat.reduceMul, Nat.reduceLeDiff, Nat.reduceSub, Nat.reduceBEq, splice, reduceCtorEq, Int.reduceEq, Int.reduceLT, Int.reduceLE, Int.reduceNeg, Int.reduceBEq, String.reduceEq, eqFlat, tf, aOpI, ty36, isIfaceD]
  refine hK _ _ ?_
  clear hK
  refine AWp.condF (by simp -implicitDefEqProofs only [vcT, wantedA, kp, kp2, kpS, kr, k1, k2, kL, kLP, kFn, kFn2, kSl, kSl2, kSl3, kC2, kP0, kP1, ev, evs, evParts, evO, Nat.reduceLT, Nat.reduceEqDiff, reduceIte, fr0, okConst, okc, appendA, cellsA, boxA, allocA, storeA, loadA, fieldA, indexA, fieldV, indexV, partA, extractA, nilA, binA, intBin, unA, lenA, isAggD, isConst, Nat.reduceAdd, Nat.reduceMul, Nat.reduceLeDiff, Nat.reduceSub, Nat.reduceBEq, splice, reduceCtorEq, Int.reduceEq, Int.reduceLT, Int.reduceLE, Int.reduceNeg, Int.reduceBEq, String.reduceEq, eqFlat, tf, aOpI]) ?_
  refine AWp.skip ?_
  refine hK0 _ _ ?_
  clear hK0
  obtain ⟨A, hA⟩ : ∃ A : Nat, IntKind.wrap .u64 cut = (A : Int) ∧ A < 18446744073709551616 := by
    rw [IntKind.wrap_u64]
    exact ⟨(cut % 18446744073709551616).toNat, by omega, by omega⟩
  obtain ⟨hA, hA2⟩ := hA
  have w1 : IntKind.wrap .u64 (L.length : Int) = (L.length : Int) := by rw [IntKind.wrap_u64]; omega
  have w2 := rem_nat A L.length
  have hmod := Nat.mod_lt A (by omega : L.length > 0)
  have w3 : IntKind.wrap .i64 ((A % L.length : Nat) : Int) = ((A % L.length : Nat) : Int) := by rw [IntKind.wrap_i64]; omega
  have w4 : ¬ ((L.length : Int) = 0) := by omega
  obtain ⟨i, hi⟩ : ∃ i, A % L.length = i := ⟨_, rfl⟩
  rw [hi] at w2 w3 hmod
  obtain ⟨x, hx⟩ : ∃ x, L[i]? = some x := ⟨_, List.getElem?_eq_getElem hmod⟩
  have hx256 := heb x (List.mem_of_getElem? hx)
  have hxb := bys_get hx
  have b2 : 0 ≤ (i : Int) ∧ (i : Int) < (L.length : Int) := by omega
  have x0 : (i : Int).toNat = i := Int.toNat_natCast i
  have w6 := xor8 hx256 hby
  have hy256 : x ^^^ by_ < 256 := Nat.xor_lt_two_pow (n := 8) (by omega) (by omega)
  have hyne : x ≠ x ^^^ by_ := by
    intro e
    have e2 := congrArg (x ^^^ ·) e
    simp only [Nat.xor_self, ← Nat.xor_assoc, Nat.zero_xor] at e2
    exact hby0 e2.symm
  have hopn := hsp hx hy256 hyne
  generalize x ^^^ by_ = y at *
  have hst := bys_set L i y
  have hln : i + 1 ≤ (bys L).length := by rw [bys_len]; omega
  refine AWp.seq_region tok fun K hK => ?_
  simp -implicitDefEqProofs only [vcT, wantedA, kp, kp2, kpS, kr, k1, k2, kL, kLP, kFn, kFn2, kSl, kSl2, kSl3, kC2, kP0, kP1, ev, evs, evParts, evO, Nat.reduceLT, Nat.reduceEqDiff, reduceIte, fr0, okConst, okc, appendA, cellsA, boxA, allocA, storeA, loadA, fieldA, indexA, fieldV, indexV, partA, extractA, nilA, binA, intBin, unA, isAggD, isConst, Nat.reduceAdd, Nat.reduceMul, Nat.reduceLeDiff, Nat.reduceSub, Nat.reduceBEq, splice, reduceCtorEq, Int.reduceEq, Int.reduceLT, Int.reduceLE, Int.reduceNeg, Int.reduceBEq, String.reduceEq, eqFlat, tf, aOpI, hlen2, ty3, ty5, ty49, ty22, convA, hA, w1, w2, w3, w4, intBin, b2, x0, Nat.mul_one, hrow, hxb, w6, hst, hln]
  refine hK _ _ ?_
  clear hK
  have hlo := (List.getElem?_eq_some_iff.1 hrow).1
  have hu4 : SlB (S3.set ob (.row 5 true (bys (L.set i y)))) (.slice (some ⟨ob, 0, none⟩) L.length 1) (L.set i y) :=
    OwB.slB (n := 0) ⟨ob, Nat.zero_le _, by rw [List.length_set], List.getElem?_set_self hlo⟩
  have hk4 : Keeps S (S3.set ob (.row 5 true (bys (L.set i y)))) := hk3.set hsl _
  have hby4 : IsBy (L.set i y) := fun z hz => by
    rcases List.mem_or_eq_of_mem_set hz with q | q
    · exact heb z q
    · omega
  generalize (S3.set ob (.row 5 true (bys (L.set i y)))) = S4 at *
  have hdc : decF (L.set i y) = (zF, [(40, -1), (6, -1)]) := by unfold decF; rw [hopn]
  refine AWp.seq_region tok fun K hK => ?_
  refine aList_cut 1 fun K1 hK1 => ?_
  simp -implicitDefEqProofs only [vcT, wantedA, kp, kp2, kpS, kr, k1, k2, kL, kLP, kFn, kFn2, kSl, kSl2, kSl3, kC2, kP0, kP1, ev, evs, evParts, evO, Nat.reduceLT, Nat.reduceEqDiff, reduceIte, fr0, okConst, okc, appendA, cellsA, boxA, allocA, storeA, loadA, fieldA, indexA, fieldV, indexV, partA, extractA, nilA, binA, intBin, unA, lenA, isAggD, isConst, Nat.reduceAdd, Nat.reduceMul, Nat.reduceLeDiff, Nat.reduceSub, Nat.reduceBEq, splice, reduceCtorEq, Int.reduceEq, Int.reduceLT, Int.reduceLE, Int.reduceNeg, Int.reduceBEq, String.reduceEq, eqFlat, tf, aOpI]
  refine hK1 _ _ ?_
  clear hK1
  refine aList_cut 1 fun K1 hK1 => ?_
  simp -implicitDefEqProofs only [vcT, wantedA, kp, kp2, kpS, kr, k1, k2, kL, kLP, kFn, kFn2, kSl, kSl2, kSl3, kC2, kP0, kP1, ev, evs, evParts, evO, Nat.reduceLT, Nat.reduceEqDiff, reduceIte, fr0, okConst, okc, appendA, cellsA, boxA, allocA, storeA, loadA, fieldA, indexA, fieldV, indexV, partA, extractA, nilA, binA, intBin, unA, lenA, isAggD, isConst, Nat.reduceAdd, Nat.reduceMul, Nat.reduceLeDiff, Nat.reduceSub, Nat.reduceBEq, splice, reduceCtorEq, Int.reduceEq, Int.reduceLT, Int.reduceLE, Int.reduceNeg, Int.reduceBEq, String.reduceEq, eqFlat, tf, aOpI, Array.toList_empty, List.drop_succ_cons, List.drop_zero]
  refine (call12 hu4 hby4 (by rw [List.length_set]; omega)).mono ?_
  rintro xx S5 ⟨hk5, um5, ur5, vE, rfl, h5', he5⟩
  rw [hdc] at h5' he5 ⊢
  replace hk5 := hk4.trans hk5
  obtain ⟨⟨p1, p2⟩, p3, p4⟩ := frm_one h5'
  simp only [frmV]
  refine hK1 _ _ ?_
  clear hK1
  simp -implicitDefEqProofs only [vcT, wantedA, kp, kp2, kpS, kr, k1, k2, kL, kLP, kFn, kFn2, kSl, kSl2, kSl3, kC2, kP0, kP1, ev, evs, evParts, evO, Nat.reduceLT, Nat.reduceEqDiff, reduceIte, fr0, okConst, okc, appendA, cellsA, boxA, allocA, storeA, loadA, fieldA, indexA, fieldV, indexV, partA, extractA, nilA, binA, intBin, unA, lenA, isAggD, isConst, Nat.reduceAdd, Nat.reduceMul, Nat.reduceLeDiff, Nat.reduceSub, Nat.reduceBEq, splice, reduceCtorEq, Int.reduceEq, Int.reduceLT, Int.reduceLE, Int.reduceNeg, Int.reduceBEq, String.reduceEq, eqFlat, tf, aOpI, ty34, p1, p2, p3, p4, List.drop_succ_cons, List.drop_zero]
  refine hK _ _ ?_
  clear hK
  have hkp := Keeps.append S5 [AObj.row 34 true (frmC zF um5 ur5)]
  have h6' := h5'.keeps hkp
  have he6 := he5.keeps hkp
  have hk6 := hk5.trans hkp
  have hrow6 : (S5 ++ [AObj.row 34 true (frmC zF um5 ur5)])[S5.length]? = some (.row 34 true (frmC zF um5 ur5)) := by simp
  simp only [frmC] at h6' he6 hk6 hrow6
  refine AWp.seq_region tok fun K hK => ?_
  refine aList_cut 1 fun K1 hK1 => ?_
  simp -implicitDefEqProofs only [vcT, wantedA, kp, kp2, kpS, kr, k1, k2, kL, kLP, kFn, kFn2, kSl, kSl2, kSl3, kC2, kP0, kP1, ev, evs, evParts, evO, Nat.reduceLT, Nat.reduceEqDiff, reduceIte, fr0, okConst, okc, appendA, cellsA, boxA, allocA, storeA, loadA, fieldA, indexA, fieldV, indexV, partA, extractA, nilA, binA, intBin, unA, lenA, isAggD, isConst, Nat.reduceAdd, Nat.reduceMul, Nat.reduceLeDiff, Nat.reduceSub, Nat.reduceBEq, splice, reduceCtorEq, Int.reduceEq, Int.reduceLT, Int.reduceLE, Int.reduceNeg, Int.reduceBEq, String.reduceEq, eqFlat, tf, aOpI]
  refine hK1 _ _ ?_
  clear hK1
  refine aList_cut 1 fun K1 hK1 => ?_
  simp -implicitDefEqProofs only [vcT, wantedA, kp, kp2, kpS, kr, k1, k2, kL, kLP, kFn, kFn2, kSl, kSl2, kSl3, kC2, kP0, kP1, ev, evs, evParts, evO, Nat.reduceLT, Nat.reduceEqDiff, reduceIte, fr0, okConst, okc, appendA, cellsA, boxA, allocA, storeA, loadA, fieldA, indexA, fieldV, indexV, partA, extractA, nilA, binA, intBin, unA, lenA, isAggD, isConst, Nat.reduceAdd, Nat.reduceMul, Nat.reduceLeDiff, Nat.reduceSub, Nat.reduceBEq, splice, reduceCtorEq, Int.reduceEq, Int.reduceLT, Int.reduceLE, Int.reduceNeg, Int.reduceBEq, String.reduceEq, eqFlat, tf, aOpI, Array.toList_empty, List.drop_succ_cons, List.drop_zero]
  have fi1 : FineE [(40, -1), (6, -1)] := fun x hx => by
    simp only [List.mem_cons, List.not_mem_nil, or_false] at hx
    rcases hx with rfl | rfl <;> decide
  refine (call15 he6 fi1 (by simp)).mono ?_
  rintro xx S7 ⟨rfl, rfl⟩
  refine hK1 _ _ ?_
  clear hK1
  rw [tr_spoil]
  refine aList_cut 4 fun K1 hK1 => ?_
  simp -implicitDefEqProofs only [vcT, wantedA, kp, kp2, kpS, kr, k1, k2, kL, kLP, kFn, kFn2, kSl, kSl2, kSl3, kC2, kP0, kP1, ev, evs, evParts, evO, Nat.reduceLT, Nat.reduceEqDiff, reduceIte, fr0, okConst, okc, appendA, cellsA, boxA, allocA, storeA, loadA, fieldA, indexA, fieldV, indexV, partA, extractA, nilA, binA, intBin, unA, lenA, isAggD, isConst, Nat.reduceAdd, Nat.reduceMul, Nat.reduceLeDiff, Nat.reduceSub, Nat.reduceBEq, splice, reduceCtorEq, Int.reduceEq, Int.reduceLT, Int.reduceLE, Int.reduceNeg, Int.reduceBEq, String.reduceEq, eqFlat, tf, aOpI, strBin, beq_self_eq_true, hrow6, ty34, bd34_0, List.drop_succ_cons, List.drop_zero]
  refine hK1 _ _ ?_
  clear hK1
  refine aList_cut 1 fun K1 hK1 => ?_
  simp -implicitDefEqProofs only [vcT, wantedA, kp, kp2, kpS, kr, k1, k2, kL, kLP, kFn, kFn2, kSl, kSl2, kSl3, kC2, kP0, kP1, ev, evs, evParts, evO, Nat.reduceLT, Nat.reduceEqDiff, reduceIte, fr0, okConst, okc, appendA, cellsA, boxA, allocA, storeA, loadA, fieldA, indexA, fieldV, indexV, partA, extractA, nilA, binA, intBin, unA, lenA, isAggD, isConst, Nat.reduceAdd, Nat.reduceMul, Nat.reduceLeDiff, Nat.reduceSub, Nat.reduceBEq, splice, reduceCtorEq, Int.reduceEq, Int.reduceLT, Int.reduceLE, Int.reduceNeg, Int.reduceBEq, String.reduceEq, eqFlat, tf, aOpI, Array.toList_empty, List.drop_succ_cons, List.drop_zero]
  refine (call14 h6' (zF_at _)).mono ?_
  rintro xx S7 ⟨rfl, rfl⟩
  refine hK1 _ _ ?_
  clear hK1
  simp -implicitDefEqProofs only [vcT, wantedA, kp, kp2, kpS, kr, k1, k2, kL, kLP, kFn, kFn2, kSl, kSl2, kSl3, kC2, kP0, kP1, ev, evs, evParts, evO, Nat.reduceLT, Nat.reduceEqDiff, reduceIte, fr0, okConst, okc, appendA, cellsA, boxA, allocA, storeA, loadA, fieldA, indexA, fieldV, indexV, partA, extractA, nilA, binA, intBin, unA, lenA, isAggD, isConst, Nat.reduceAdd, Nat.reduceMul, Nat.reduceLeDiff, Nat.reduceSub, Nat.reduceBEq, splice, reduceCtorEq, Int.reduceEq, Int.reduceLT, Int.reduceLE, Int.reduceNeg, Int.reduceBEq, String.reduceEq, eqFlat, tf, aOpI, List.drop_succ_cons, List.drop_zero]
  refine hK _ _ ?_
  clear hK
  refine AWp.ret ?_
  simp -implicitDefEqProofs only [vcT, wantedA, kp, kp2, kpS, kr, k1, k2, kL, kLP, kFn, kFn2, kSl, kSl2, kSl3, kC2, kP0, kP1, ev, evs, evParts, evO, Nat.reduceLT, Nat.reduceEqDiff, reduceIte, fr0, okConst, okc, appendA, cellsA, boxA, allocA, storeA, loadA, fieldA, indexA, fieldV, indexV, partA, extractA, nilA, binA, intBin, unA, lenA, isAggD, isConst, Nat.reduceAdd, Nat.reduceMul, Nat.reduceLeDiff, Nat.reduceSub, Nat.reduceBEq, splice, reduceCtorEq, Int.reduceEq, Int.reduceLT, Int.reduceLE, Int.reduceNeg, Int.reduceBEq, String.reduceEq, eqFlat, tf, aOpI, ThenA, BlockA, EndA, ressA, resA, wrapA]
  exact ⟨hk6, .const _ rfl⟩
end Go.Proofs.Ytpgiiidnimbdgaa
