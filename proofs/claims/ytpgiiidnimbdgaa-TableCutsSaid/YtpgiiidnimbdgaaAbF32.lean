/- Tables' bytes: Encode walked. -/
import Derived.Test.YtpgiiidnimbdgaaAbF31
import Derived.Test.YtpgiiidnimbdgaaAbG1
namespace Go.Proofs.Ytpgiiidnimbdgaa
open Go.Ab
set_option linter.unusedSimpArgs false
set_option linter.unusedVariables false
set_option maxRecDepth 4000

def u32 (y : Int) : Nat := (IntKind.wrap .u32 y).toNat
theorem u32_lt (y : Int) : u32 y < 4294967296 := by unfold u32; rw [IntKind.wrap_u32]; omega
theorem u32_wrap (y : Int) : IntKind.wrap .u32 y = ((u32 y : Nat) : Int) := by unfold u32; rw [IntKind.wrap_u32]; omega
theorem u32_id {y : Int} (h0 : 0 ≤ y) (h1 : y < 4294967296) : u32 y = y.toNat := by unfold u32; rw [IntKind.wrap_u32]; omega
def putL (k : Nat) (xs : List Int) : List Nat := xs.flatMap fun y => beN k (u32 y)
theorem putL_len (k : Nat) (xs : List Int) : (putL k xs).length = k * xs.length := by
  induction xs with
  | nil => simp [putL]
  | cons y xs ih =>
    unfold putL at *
    rw [List.flatMap_cons, List.length_append, ih, beN_len, List.length_cons, Nat.mul_succ, Nat.add_comm]
theorem putL_by (k : Nat) (xs : List Int) : IsBy (putL k xs) := fun z hz => by
  obtain ⟨y, _, h⟩ := List.mem_flatMap.1 hz
  exact beN_by _ _ z h
def ints (xs : List Int) : List Value := xs.map fun y => .int .i64 y

theorem enter54 (cargs : Array Value) (w : World) : (callFunc 54 cargs).run Try.prog w = .ok (.enter 54 cargs) w := by kernel_rfl
set_option maxHeartbeats 1000000 in
theorem call54 {S : St} {n o x : Nat} {l : List Nat} (h : WrAt S n o l) (k : Nat) (hk : k = 1 ∨ k = 2 ∨ k = 4) (xs : List Int) (hx : S[x]? = some (.row 3 true (ints xs))) (hl : l.length + k * xs.length ≤ 50000) (hxl : xs.length ≤ 1000) :
    ACalls Try.prog 54 [.int .i64 (k : Int), .slice (some ⟨x, 0, none⟩) xs.length 1, .pointer (some ⟨o, 0, none⟩)] S (fun _ S' => ModW n o S S' ∧ WrAt S' n o (l ++ putL k xs)) := by
  refine ACalls.of tok enter54 Try.func54 rfl (m := 18) rfl (by simp) (rs := []) rfl fun hc ha => ?_
  clear ha
  have hxo : x ≠ o := by
    rintro rfl
    obtain ⟨v, hv, _⟩ := h.row
    rw [hx] at hv
    cases hv
  refine AWp.seq_region tok fun K hK => ?_
  simp -implicitDefEqProofs only [vcT, wantedA, kp, kp2, kpS, kr, k1, k2, kL, kLP, kFn, kFn2, kSl, kSl2, kSl3, kC2, kP0, kP1, ev, evs, evParts, evO, Nat.reduceLT, Nat.reduceEqDiff, reduceIte, fr0, okConst, okc, appendA, cellsA, boxA, allocA, storeA, loadA, fieldA, indexA, fieldV, indexV, partA, extractA, nilA, binA, intBin, unA, lenA, isAggD, isConst, Nat.reduceAdd, Nat.reduceMul, Nat.reduceLeDiff, Nat.reduceSub, Nat.reduceBEq, splice, reduceCtorEq, Int.reduceEq, Int.reduceLT, Int.reduceLE, Int.reduceNeg, Int.reduceBEq, String.reduceEq, eqFlat, tf, aOpI, ty114]
  refine hK _ _ ?_
  clear hK
  refine AWp.block ?_
  refine AWp.loopW (fun q f S2 => ∃ (i : Nat), q + i = xs.length ∧ ModW n o S S2 ∧ WrAt S2 n o (l ++ putL k (xs.take i)) ∧ f = frL [(0, .int .i64 (k : Int)), (2, .pointer (some ⟨o, 0, none⟩)), (7, .slice (some ⟨x, 0, none⟩) xs.length 1), (8, .int .i64 xs.length), (9, .int .i64 i)]) xs.length
    ⟨_, _, Wk.frame ?_, 0, rfl, ModW.refl _ _ _, by simpa [putL] using h, rfl⟩ ?_
  · simp only [List.forall_mem_cons, vcT, wantedA, kp, kp2, kpS, kr, k1, k2, kL, kLP, kFn, kFn2, kSl, kSl2, kSl3, kC2, kP0, kP1, ev, evs, evParts, evO, Nat.reduceLT, Nat.reduceEqDiff, reduceIte, fr0, okConst, okc, appendA, cellsA, boxA, allocA, storeA, loadA, fieldA, indexA, fieldV, indexV, partA, extractA, nilA, binA, intBin, unA, lenA, isAggD, isConst, Nat.reduceAdd, Nat.reduceMul, Nat.reduceLeDiff, Nat.reduceSub, Nat.reduceBEq, splice, reduceCtorEq, Int.reduceEq, Int.reduceLT, Int.reduceLE, Int.reduceNeg, Int.reduceBEq, String.reduceEq, eqFlat, tf, aOpI]
    simp
  clear h
  rintro q f S2 ⟨i, hqi, hm, hw, rfl⟩
  refine AWp.seq_region tok fun K hK => ?_
  simp -implicitDefEqProofs only [vcT, wantedA, kp, kp2, kpS, kr, k1, k2, kL, kLP, kFn, kFn2, kSl, kSl2, kSl3, kC2, kP0, kP1, ev, evs, evParts, evO, Nat.reduceLT, Nat.reduceEqDiff, reduceIte, fr0, okConst, okc, appendA, cellsA, boxA, allocA, storeA, loadA, fieldA, indexA, fieldV, indexV, partA, extractA, nilA, binA, intBin, unA, lenA, isAggD, isConst, Nat.reduceAdd, Nat.reduceMul, Nat.reduceLeDiff, Nat.reduceSub, Nat.reduceBEq, splice, reduceCtorEq, Int.reduceEq, Int.reduceLT, Int.reduceLE, Int.reduceNeg, Int.reduceBEq, String.reduceEq, eqFlat, tf, aOpI, frL_cons]
  refine hK _ _ ?_
  clear hK
  refine AWp.seqK fun K1 hK1 => ?_
  refine AWp.condP ((i : Int) < (xs.length : Int)) (by simp only [vcT, wantedA, kp, kp2, kpS, kr, k1, k2, kL, kLP, kFn, kFn2, kSl, kSl2, kSl3, kC2, kP0, kP1, ev, evs, evParts, evO, Nat.reduceLT, Nat.reduceEqDiff, reduceIte, fr0, okConst, okc, appendA, cellsA, boxA, allocA, storeA, loadA, fieldA, indexA, fieldV, indexV, partA, extractA, nilA, binA, intBin, unA, lenA, isAggD, isConst, Nat.reduceAdd, Nat.reduceMul, Nat.reduceLeDiff, Nat.reduceSub, Nat.reduceBEq, splice, reduceCtorEq, Int.reduceEq, Int.reduceLT, Int.reduceLE, Int.reduceNeg, Int.reduceBEq, String.reduceEq, eqFlat, tf, aOpI]) (fun hin => ?_) (fun hin => ?_)
  rotate_left
  · refine AWp.exit ?_
    simp only [ThenA, BlockA, EndA, ressA, wrapA, if_true]
    rw [List.take_of_length_le (by omega)] at hw
    exact ⟨hm, hw⟩
  refine AWp.skip ?_
  refine hK1 _ _ ?_
  clear hK1
  obtain ⟨y, hy⟩ : ∃ y, xs[i]? = some y := ⟨_, List.getElem?_eq_getElem (by omega)⟩
  have hx2 := hm.get hx (by decide) hxo
  have hyb : (ints xs)[i]? = some (.int .i64 y) := by simp [ints, hy]
  have b2 : 0 ≤ (i : Int) ∧ (i : Int) < (xs.length : Int) := by omega
  have x0 : (i : Int).toNat = i := Int.toNat_natCast i
  have w1 : IntKind.wrap .i64 ((i : Int) + 1) = ((i + 1 : Nat) : Int) := by rw [IntKind.wrap_i64]; omega
  have w2 := u32_wrap y
  have hsn : putL k (xs.take (i + 1)) = putL k (xs.take i) ++ beN k (u32 y) := by unfold putL; rw [take_snoc hy, List.flatMap_append]; simp
  have hlen : (l ++ putL k (xs.take i)).length + k ≤ 100000 := by
    rw [List.length_append, putL_len]
    have h1 : (xs.take i).length ≤ xs.length := by simp; omega
    have h2 := Nat.mul_le_mul_left k h1
    have h3 : k ≤ 4 := by omega
    omega
  refine AWp.seqK fun K1 hK1 => ?_
  refine AWp.block ?_
  refine AWp.seq_region tok fun K hK => ?_
  simp -implicitDefEqProofs only [vcT, wantedA, kp, kp2, kpS, kr, k1, k2, kL, kLP, kFn, kFn2, kSl, kSl2, kSl3, kC2, kP0, kP1, ev, evs, evParts, evO, Nat.reduceLT, Nat.reduceEqDiff, reduceIte, fr0, okConst, okc, appendA, cellsA, boxA, allocA, storeA, loadA, fieldA, indexA, fieldV, indexV, partA, extractA, nilA, binA, intBin, unA, lenA, isAggD, isConst, Nat.reduceAdd, Nat.reduceMul, Nat.reduceLeDiff, Nat.reduceSub, Nat.reduceBEq, splice, reduceCtorEq, Int.reduceEq, Int.reduceLT, Int.reduceLE, Int.reduceNeg, Int.reduceBEq, String.reduceEq, eqFlat, tf, aOpI, frL_cons, ty114, ty3, b2, x0, Nat.zero_add, Nat.mul_one, hx2, hyb]
  refine hK _ _ ?_
  clear hK
  refine AWp.regionK tok fun K hK => ?_
  refine aList_cut 3 fun K1 hK1 => ?_
  simp -implicitDefEqProofs only [vcT, wantedA, kp, kp2, kpS, kr, k1, k2, kL, kLP, kFn, kFn2, kSl, kSl2, kSl3, kC2, kP0, kP1, ev, evs, evParts, evO, Nat.reduceLT, Nat.reduceEqDiff, reduceIte, fr0, okConst, okc, appendA, cellsA, boxA, allocA, storeA, loadA, fieldA, indexA, fieldV, indexV, partA, extractA, nilA, binA, intBin, unA, lenA, isAggD, isConst, Nat.reduceAdd, Nat.reduceMul, Nat.reduceLeDiff, Nat.reduceSub, Nat.reduceBEq, splice, reduceCtorEq, Int.reduceEq, Int.reduceLT, Int.reduceLE, Int.reduceNeg, Int.reduceBEq, String.reduceEq, eqFlat, tf, aOpI, frL_cons, ty3, ty24, convA, w2]
  refine hK1 _ _ ?_
  clear hK1
  refine aList_cut 1 fun K1 hK1 => ?_
  simp -implicitDefEqProofs only [vcT, wantedA, kp, kp2, kpS, kr, k1, k2, kL, kLP, kFn, kFn2, kSl, kSl2, kSl3, kC2, kP0, kP1, ev, evs, evParts, evO, Nat.reduceLT, Nat.reduceEqDiff, reduceIte, fr0, okConst, okc, appendA, cellsA, boxA, allocA, storeA, loadA, fieldA, indexA, fieldV, indexV, partA, extractA, nilA, binA, intBin, unA, lenA, isAggD, isConst, Nat.reduceAdd, Nat.reduceMul, Nat.reduceLeDiff, Nat.reduceSub, Nat.reduceBEq, splice, reduceCtorEq, Int.reduceEq, Int.reduceLT, Int.reduceLE, Int.reduceNeg, Int.reduceBEq, String.reduceEq, eqFlat, tf, aOpI, Array.toList_empty, List.drop_succ_cons, List.drop_zero, frL_cons]
  refine (call47 hw (u32 y) (u32_lt y) k hk hlen).mono ?_
  rintro z S3 ⟨hm3, hw3⟩
  rw [List.append_assoc, ← hsn] at hw3
  refine hK1 _ _ ?_
  clear hK1
  simp -implicitDefEqProofs only [vcT, wantedA, kp, kp2, kpS, kr, k1, k2, kL, kLP, kFn, kFn2, kSl, kSl2, kSl3, kC2, kP0, kP1, ev, evs, evParts, evO, Nat.reduceLT, Nat.reduceEqDiff, reduceIte, fr0, okConst, okc, appendA, cellsA, boxA, allocA, storeA, loadA, fieldA, indexA, fieldV, indexV, partA, extractA, nilA, binA, intBin, unA, lenA, isAggD, isConst, Nat.reduceAdd, Nat.reduceMul, Nat.reduceLeDiff, Nat.reduceSub, Nat.reduceBEq, splice, reduceCtorEq, Int.reduceEq, Int.reduceLT, Int.reduceLE, Int.reduceNeg, Int.reduceBEq, String.reduceEq, eqFlat, tf, aOpI, List.drop_succ_cons, List.drop_zero]
  refine hK _ _ ?_
  clear hK
  refine hK1 _ _ ?_
  clear hK1
  refine AWp.regionK tok fun K hK => ?_
  simp -implicitDefEqProofs only [vcT, wantedA, kp, kp2, kpS, kr, k1, k2, kL, kLP, kFn, kFn2, kSl, kSl2, kSl3, kC2, kP0, kP1, ev, evs, evParts, evO, Nat.reduceLT, Nat.reduceEqDiff, reduceIte, fr0, okConst, okc, appendA, cellsA, boxA, allocA, storeA, loadA, fieldA, indexA, fieldV, indexV, partA, extractA, nilA, binA, intBin, unA, lenA, isAggD, isConst, Nat.reduceAdd, Nat.reduceMul, Nat.reduceLeDiff, Nat.reduceSub, Nat.reduceBEq, splice, reduceCtorEq, Int.reduceEq, Int.reduceLT, Int.reduceLE, Int.reduceNeg, Int.reduceBEq, String.reduceEq, eqFlat, tf, aOpI, frL_cons, w1]
  refine hK _ _ ?_
  clear hK
  exact ⟨q - 1, _, _, by omega, Wk.frame (by simp only [List.forall_mem_cons, vcT, wantedA, kp, kp2, kpS, kr, k1, k2, kL, kLP, kFn, kFn2, kSl, kSl2, kSl3, kC2, kP0, kP1, ev, evs, evParts, evO, Nat.reduceLT, Nat.reduceEqDiff, reduceIte, fr0, okConst, okc, appendA, cellsA, boxA, allocA, storeA, loadA, fieldA, indexA, fieldV, indexV, partA, extractA, nilA, binA, intBin, unA, lenA, isAggD, isConst, Nat.reduceAdd, Nat.reduceMul, Nat.reduceLeDiff, Nat.reduceSub, Nat.reduceBEq, splice, reduceCtorEq, Int.reduceEq, Int.reduceLT, Int.reduceLE, Int.reduceNeg, Int.reduceBEq, String.reduceEq, eqFlat, tf, aOpI, frL_cons]; simp), i + 1, by omega, hm.trans hm3, hw3, rfl⟩

structure TabI (S S' : St) (o : Nat) (fc : List Value) (L : List Nat) : Prop where
  k : Keeps S S'
  box : S'[S.length]? = some (.row 56 true fc)
  w : WrAt S' o o L
  lt : S.length < o
theorem TabI.step {S S' S'' : St} {o : Nat} {fc : List Value} {L L' : List Nat} (h : TabI S S' o fc L) (hm : ModW o o S' S'') (hw : WrAt S'' o o L') : TabI S S'' o fc L' :=
  ⟨hm.keeps h.k (by have := h.lt; omega), hm.get h.box (by decide) (by have := h.lt; omega), hw, h.lt⟩
theorem TabI.more {S S' : St} {o : Nat} {fc : List Value} {L : List Nat} (h : TabI S S' o fc L) (R : St) : TabI S (S' ++ R) o fc L := by
  refine ⟨h.k.more R, at_old h.box R, ⟨?_, h.w.lo, h.w.len⟩, h.lt⟩
  obtain ⟨v, h1, h2⟩ := h.w.row
  exact ⟨v, at_old h1 R, h2.imp id fun q => q.keeps (Keeps.append _ _)⟩
theorem TabI.ne {S S' : St} {o : Nat} {fc : List Value} {L : List Nat} (h : TabI S S' o fc L) : S'.length ≠ o := by
  obtain ⟨v, hv, _⟩ := h.w.row
  have := (List.getElem?_eq_some_iff.1 hv).1
  omega
/-- Numbers are put. -/
theorem tput {S S4 : St} {o : Nat} {fc : List Value} {L : List Nat} (hi : TabI S S4 o fc L) (k : Nat) (hk : k = 1 ∨ k = 2 ∨ k = 4) (xs : List Int) (m : Nat) (hm : xs.length = m) (hl : L.length ≤ 20000) (hxl : m ≤ 1000) :
    ACalls Try.prog 54 [.int .i64 (k : Int), .slice (some ⟨S4.length, 0, none⟩) m 1, .pointer (some ⟨o, 0, none⟩)] (S4 ++ [.row 3 true (ints xs)]) (fun _ S' => TabI S S' o fc (L ++ putL k xs) ∧ ModW o o S4 S') := by
  subst hm
  have h1 := hi.more [.row 3 true (ints xs)]
  refine (call54 h1.w k hk xs (x := S4.length) (by simp) (by have : k * xs.length ≤ 4 * 1000 := Nat.mul_le_mul (by omega) hxl; omega) hxl).mono ?_
  rintro x S' ⟨q1, q2⟩
  refine ⟨h1.step q1 q2, ?_⟩
  have ha : ModW o o S4 (S4 ++ [.row 3 true (ints xs)]) := ⟨by simp, fun j hj => ?_, fun j ty rw cs hj _ _ => (at_old hj _).trans hj.symm⟩
  · exact ha.trans q1
  · obtain ⟨v, hv, _⟩ := hi.w.row
    have := (List.getElem?_eq_some_iff.1 hv).1
    exact List.getElem?_append_left (by omega)

theorem bs114_1 (S : St) (a : Int) : buildSliceA TT S 114 1 [(0, .int .i64 a)] = some (.slice (some ⟨S.length, 0, none⟩) 1 1, S ++ [.row 3 true [.int .i64 a]]) := by kernel_rfl
theorem bs114_2 (S : St) (a b : Int) : buildSliceA TT S 114 2 [(0, .int .i64 a), (1, .int .i64 b)] = some (.slice (some ⟨S.length, 0, none⟩) 2 1, S ++ [.row 3 true [.int .i64 a, .int .i64 b]]) := by kernel_rfl
theorem bs114_3 (S : St) (a b c : Int) : buildSliceA TT S 114 3 [(0, .int .i64 a), (1, .int .i64 b), (2, .int .i64 c)] = some (.slice (some ⟨S.length, 0, none⟩) 3 1, S ++ [.row 3 true [.int .i64 a, .int .i64 b, .int .i64 c]]) := by kernel_rfl
theorem bs114_6 (S : St) (a b c d e f : Int) : buildSliceA TT S 114 6 [(0, .int .i64 a), (1, .int .i64 b), (2, .int .i64 c), (3, .int .i64 d), (4, .int .i64 e), (5, .int .i64 f)] = some (.slice (some ⟨S.length, 0, none⟩) 6 1, S ++ [.row 3 true [.int .i64 a, .int .i64 b, .int .i64 c, .int .i64 d, .int .i64 e, .int .i64 f]]) := by kernel_rfl
end Go.Proofs.Ytpgiiidnimbdgaa
