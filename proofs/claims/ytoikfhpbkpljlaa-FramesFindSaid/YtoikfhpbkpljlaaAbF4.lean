/- The windows of a node and the two counts of idle time, walked. -/
import Derived.Test.YtoikfhpbkpljlaaAbF3
namespace Go.Proofs.Ytoikfhpbkpljlaa
open Go.Ab
set_option linter.unusedSimpArgs false
set_option linter.unusedVariables false

theorem Cf.solid_val (c : Cf) : solid c.val = true := rfl
theorem Cf.val_cells (c : Cf) : c.val.cells = c.cells.toArray := rfl
theorem Cf.c0 (c : Cf) : c.cells[0]? = some (.int .i64 c.n0) := rfl
theorem Cf.c1 (c : Cf) : c.cells[1]? = some (.int .i64 c.n1) := rfl
theorem Cf.c2 (c : Cf) : c.cells[2]? = some (.int .i64 c.n2) := rfl
theorem Cf.c3 (c : Cf) : c.cells[3]? = some (.int .i64 c.n3) := rfl
theorem Cf.c4 (c : Cf) : c.cells[4]? = some (.int .i64 c.n4) := rfl
theorem Cf.c5 (c : Cf) : c.cells[5]? = some (.int .i64 c.n5) := rfl
theorem Cf.c6 (c : Cf) : c.cells[6]? = some (.int .i64 c.n6) := rfl
theorem Cf.c7 (c : Cf) : c.cells[7]? = some (.int .i64 c.n7) := rfl
theorem Cf.c8 (c : Cf) : c.cells[8]? = some c.v8 := rfl
theorem Cf.c9 (c : Cf) : c.cells[9]? = some c.v9 := rfl
theorem Cf.c10 (c : Cf) : c.cells[10]? = some c.v10 := rfl
theorem Cf.len (c : Cf) : c.cells.length = 11 := rfl
theorem Cf.take11 (c : Cf) : c.cells.take 11 = c.cells := rfl
theorem Cf.fold (c : Cf) : Value.agg c.cells.toArray = c.val := rfl

theorem bd41 (a b c : Int) : buildA TT 41 [(0, .int .i64 a), (1, .int .i64 b), (2, .int .i64 c)] = some (.agg #[.int .i64 a, .int .i64 b, .int .i64 c]) := by kernel_rfl
theorem bs32_1 (S : St) (a b c : Int) : buildSliceA TT S 32 1 [(0, .agg #[.int .i64 a, .int .i64 b, .int .i64 c])] =
    some (.slice (some ⟨S.length, 0, none⟩) 1 3, S ++ [.row 41 true [.int .i64 a, .int .i64 b, .int .i64 c]]) := by kernel_rfl

def ptOf (ps : List Pt) (x : Nat) : Pt := ps.getD x default
def wTo (ps : List Pt) (x : Nat) : Int := w64 ((ptOf ps x).start + (ptOf ps x).len)
def wcells (ps : List Pt) (x : Nat) : List Value := [.int .i64 x, .int .i64 (ptOf ps x).start, .int .i64 (wTo ps x)]
def rowW (ps : List Pt) (L : List Nat) : List Value := L.flatMap (wcells ps)
theorem rowW_len (ps : List Pt) (L : List Nat) : (rowW ps L).length = L.length * 3 := by
  induction L with
  | nil => rfl
  | cons x L ih =>
    simp only [rowW, List.flatMap_cons, List.length_append, List.length_cons]
    simp only [rowW] at ih
    rw [ih]
    simp [wcells]
    omega
theorem rowW_snoc (ps : List Pt) (L : List Nat) (x : Nat) : rowW ps (L ++ [x]) = rowW ps L ++ wcells ps x := by simp [rowW]
theorem rowW_closed (ps : List Pt) (n : Nat) (L : List Nat) : ∀ v ∈ rowW ps L, Closed n v := by
  intro v hv
  obtain ⟨x, _, hx⟩ := List.mem_flatMap.1 hv
  simp only [wcells, List.mem_cons, List.not_mem_nil, or_false] at hx
  rcases hx with rfl | rfl | rfl <;> exact .const _ rfl
theorem rowW_get (ps : List Pt) : ∀ (L : List Nat) (j x : Nat), L[j]? = some x → ((rowW ps L).drop (j * 3)).take 3 = wcells ps x
  | [], j, x, h => by simp at h
  | y :: L, 0, x, h => by
    simp at h
    subst h
    simp [rowW, wcells]
  | y :: L, j + 1, x, h => by
    have := rowW_get ps L j x (by simpa using h)
    rw [← this]
    have e : (j + 1) * 3 = j * 3 + 3 := by omega
    rw [e]
    simp [rowW, wcells]
theorem rowW_at (ps : List Pt) {L : List Nat} {j x : Nat} (h : L[j]? = some x) (i : Nat) (hi : i < 3) : (rowW ps L)[j * 3 + i]? = (wcells ps x)[i]? := by
  rw [← rowW_get ps L j x h, List.getElem?_take, if_pos hi, List.getElem?_drop]

def winV (n : Nat) (L : List Nat) : Value := if L = [] then .slice none 0 0 else .slice (some ⟨n, 0, none⟩) L.length 3
def winR (ps : List Pt) (L : List Nat) : List AObj := if L = [] then [] else [.row 41 true (rowW ps L)]

/-- What the order of a node's parts is known to be. -/
structure Ord (ps : List Pt) (nd : Int) (M : List Nat) : Prop where
  perm : M.Perm (sel ps nd ps.length)
  up : Upto (keyOf ps) (sel ps nd ps.length).length M
theorem Ord.lt {ps : List Pt} {nd : Int} {M : List Nat} (h : Ord ps nd M) : ∀ x ∈ M, x < ps.length := fun x hx => sel_lt x (h.perm.mem_iff.1 hx)
theorem Ord.len {ps : List Pt} {nd : Int} {M : List Nat} (h : Ord ps nd M) : M.length ≤ ps.length := by
  rw [h.perm.length_eq]; exact sel_len ps nd _

theorem enter11 (cargs : Array Value) (w : World) : (callFunc 11 cargs).run Try.prog w = .ok (.enter 11 cargs) w := by kernel_rfl
theorem call11 {S : St} {c : Cf} {ps : List Pt} {o k s : Nat} {rw : Bool} {cs : List Value} (hp : PtAt S c ps o k s rw cs) (nd : Int) :
    ACalls Try.prog 11 [c.val, .int .i64 nd] S (fun r S' => ∃ M : List Nat, Ord ps nd M ∧ r = winV S.length M ∧ S' = S ++ winR ps M) := by
  refine ACalls.weak (ACalls.of tok enter11 Try.func11 rfl (m := 42) rfl (by simp) (rs := [.tmp 4]) rfl fun hc ha => ?_)
  have hcl := cells_closed (ha c.val (by simp))
  have h5 := hp.v
  have h6 := hp.at_.row
  have hsm := hp.small
  have b0 : ps.length ≤ 9223372036854775807 := by omega
  clear ha
  refine AWp.seq_region tok fun K hK => ?_
  simp -implicitDefEqProofs only [vcT, wantedA, kp, kp2, kpS, kr, k1, k2, kL, kLP, kFn, kFn2, kSl, kSl2, kSl3, kC2, kP0, kP1, ev, evs, evParts, evO, Nat.reduceLT, Nat.reduceEqDiff, reduceIte, fr0, okConst, okc, appendA, cellsA, boxA, allocA, storeA, loadA, fieldA, indexA, fieldV, indexV, partA, extractA, nilA, binA, intBin, unA, lenA, isAggD, isConst, Nat.reduceAdd, Nat.reduceMul, Nat.reduceLeDiff, Nat.reduceSub, Nat.reduceBEq, splice, reduceCtorEq, Int.reduceEq, Int.reduceLT, Int.reduceLE, Int.reduceNeg, Int.reduceBEq, String.reduceEq, eqFlat, tf, aOpI, Cf.solid_val, Cf.val_cells, List.toList_toArray, Cf.c0, Cf.c1, Cf.c2, Cf.c3, Cf.c4, Cf.c5, Cf.c6, Cf.c7, Cf.c8, Cf.c9, Cf.c10, Cf.len, Cf.take11, Cf.fold]
  refine hK _ _ ?_
  clear hK
  refine AWp.seq_region tok fun K hK => ?_
  simp -implicitDefEqProofs only [vcT, wantedA, kp, kp2, kpS, kr, k1, k2, kL, kLP, kFn, kFn2, kSl, kSl2, kSl3, kC2, kP0, kP1, ev, evs, evParts, evO, Nat.reduceLT, Nat.reduceEqDiff, reduceIte, fr0, okConst, okc, appendA, cellsA, boxA, allocA, storeA, loadA, fieldA, indexA, fieldV, indexV, partA, extractA, nilA, binA, intBin, unA, lenA, isAggD, isConst, Nat.reduceAdd, Nat.reduceMul, Nat.reduceLeDiff, Nat.reduceSub, Nat.reduceBEq, splice, reduceCtorEq, Int.reduceEq, Int.reduceLT, Int.reduceLE, Int.reduceNeg, Int.reduceBEq, String.reduceEq, eqFlat, tf, aOpI]
  refine hK _ _ ?_
  clear hK
  refine AWp.seqK fun K0 hK0 => ?_
  refine AWp.seq_region tok fun K hK => ?_
  refine aList_cut 2 fun K1 hK1 => ?_
  simp -implicitDefEqProofs only [vcT, wantedA, kp, kp2, kpS, kr, k1, k2, kL, kLP, kFn, kFn2, kSl, kSl2, kSl3, kC2, kP0, kP1, ev, evs, evParts, evO, Nat.reduceLT, Nat.reduceEqDiff, reduceIte, fr0, okConst, okc, appendA, cellsA, boxA, allocA, storeA, loadA, fieldA, indexA, fieldV, indexV, partA, extractA, nilA, binA, intBin, unA, lenA, isAggD, isConst, Nat.reduceAdd, Nat.reduceMul, Nat.reduceLeDiff, Nat.reduceSub, Nat.reduceBEq, splice, reduceCtorEq, Int.reduceEq, Int.reduceLT, Int.reduceLE, Int.reduceNeg, Int.reduceBEq, String.reduceEq, eqFlat, tf, aOpI, ty26, Cf.solid_val, Cf.val_cells, List.toList_toArray, Cf.c0, Cf.c1, Cf.c2, Cf.c3, Cf.c4, Cf.c5, Cf.c6, Cf.c7, Cf.c8, Cf.c9, Cf.c10, Cf.len, Cf.take11, Cf.fold]
  refine hK1 _ _ ?_
  clear hK1
  refine aList_cut 1 fun K1 hK1 => ?_
  simp -implicitDefEqProofs only [vcT, wantedA, kp, kp2, kpS, kr, k1, k2, kL, kLP, kFn, kFn2, kSl, kSl2, kSl3, kC2, kP0, kP1, ev, evs, evParts, evO, Nat.reduceLT, Nat.reduceEqDiff, reduceIte, fr0, okConst, okc, appendA, cellsA, boxA, allocA, storeA, loadA, fieldA, indexA, fieldV, indexV, partA, extractA, nilA, binA, intBin, unA, lenA, isAggD, isConst, Nat.reduceAdd, Nat.reduceMul, Nat.reduceLeDiff, Nat.reduceSub, Nat.reduceBEq, splice, reduceCtorEq, Int.reduceEq, Int.reduceLT, Int.reduceLE, Int.reduceNeg, Int.reduceBEq, String.reduceEq, eqFlat, tf, aOpI, Array.toList_empty, List.drop_succ_cons, List.drop_zero]
  refine (call21 (hp.append _) nd).mono ?_
  rintro r S' ⟨M, h1, h2, rfl, rfl⟩
  have hO : Ord ps nd M := ⟨h1, h2⟩
  have hlt := hO.lt
  have hln := hO.len
  refine hK1 _ _ ?_
  clear hK1 h1 h2
  have c8 : Closed S.length c.v8 := hcl _ (by simp [Cf.cells])
  rcases Decidable.em (M = []) with he | he
  · subst he
    have e1 : idxV (S.length + 1) [] = .slice none 0 0 := rfl
    have e2 : idxR [] = [] := rfl
    simp -implicitDefEqProofs only [vcT, wantedA, kp, kp2, kpS, kr, k1, k2, kL, kLP, kFn, kFn2, kSl, kSl2, kSl3, kC2, kP0, kP1, ev, evs, evParts, evO, Nat.reduceLT, Nat.reduceEqDiff, reduceIte, fr0, okConst, okc, appendA, cellsA, boxA, allocA, storeA, loadA, fieldA, indexA, fieldV, indexV, partA, extractA, nilA, binA, intBin, unA, lenA, isAggD, isConst, Nat.reduceAdd, Nat.reduceMul, Nat.reduceLeDiff, Nat.reduceSub, Nat.reduceBEq, splice, reduceCtorEq, Int.reduceEq, Int.reduceLT, Int.reduceLE, Int.reduceNeg, Int.reduceBEq, String.reduceEq, eqFlat, tf, aOpI, List.drop_succ_cons, List.drop_zero, e1, e2, ty34]
    refine hK _ _ ?_
    clear hK
    refine AWp.block ?_
    refine AWp.loopW (fun q f S1 => f = frL [(5, .slice none 0 0), (11, .int .i64 0), (12, .int .i64 0)] ∧ S1 = S ++ [.row 26 true c.cells]) 0
      ⟨_, _, Wk.frame (by simp only [List.forall_mem_cons, vcT, wantedA, kp, kp2, kpS, kr, k1, k2, kL, kLP, kFn, kFn2, kSl, kSl2, kSl3, kC2, kP0, kP1, ev, evs, evParts, evO, Nat.reduceLT, Nat.reduceEqDiff, reduceIte, fr0, okConst, okc, appendA, cellsA, boxA, allocA, storeA, loadA, fieldA, indexA, fieldV, indexV, partA, extractA, nilA, binA, intBin, unA, lenA, isAggD, isConst, Nat.reduceAdd, Nat.reduceMul, Nat.reduceLeDiff, Nat.reduceSub, Nat.reduceBEq, splice, reduceCtorEq, Int.reduceEq, Int.reduceLT, Int.reduceLE, Int.reduceNeg, Int.reduceBEq, String.reduceEq, eqFlat, tf, aOpI]; simp), rfl, by rfl⟩ ?_
    rintro q f S1 ⟨rfl, rfl⟩
    refine AWp.seq_region tok fun K hK => ?_
    simp -implicitDefEqProofs only [vcT, wantedA, kp, kp2, kpS, kr, k1, k2, kL, kLP, kFn, kFn2, kSl, kSl2, kSl3, kC2, kP0, kP1, ev, evs, evParts, evO, Nat.reduceLT, Nat.reduceEqDiff, reduceIte, fr0, okConst, okc, appendA, cellsA, boxA, allocA, storeA, loadA, fieldA, indexA, fieldV, indexV, partA, extractA, nilA, binA, intBin, unA, lenA, isAggD, isConst, Nat.reduceAdd, Nat.reduceMul, Nat.reduceLeDiff, Nat.reduceSub, Nat.reduceBEq, splice, reduceCtorEq, Int.reduceEq, Int.reduceLT, Int.reduceLE, Int.reduceNeg, Int.reduceBEq, String.reduceEq, eqFlat, tf, aOpI, frL_cons]
    refine hK _ _ ?_
    clear hK
    refine AWp.seqK fun K1 hK1 => ?_
    refine AWp.condF (by simp only [vcT, wantedA, kp, kp2, kpS, kr, k1, k2, kL, kLP, kFn, kFn2, kSl, kSl2, kSl3, kC2, kP0, kP1, ev, evs, evParts, evO, Nat.reduceLT, Nat.reduceEqDiff, reduceIte, fr0, okConst, okc, appendA, cellsA, boxA, allocA, storeA, loadA, fieldA, indexA, fieldV, indexV, partA, extractA, nilA, binA, intBin, unA, lenA, isAggD, isConst, Nat.reduceAdd, Nat.reduceMul, Nat.reduceLeDiff, Nat.reduceSub, Nat.reduceBEq, splice, reduceCtorEq, Int.reduceEq, Int.reduceLT, Int.reduceLE, Int.reduceNeg, Int.reduceBEq, String.reduceEq, eqFlat, tf, aOpI]) ?_
    refine AWp.exit ?_
    simp only [ThenA, BlockA, if_true]
    refine hK0 _ _ ?_
    refine AWp.seq_region tok fun K hK => ?_
    simp -implicitDefEqProofs only [vcT, wantedA, kp, kp2, kpS, kr, k1, k2, kL, kLP, kFn, kFn2, kSl, kSl2, kSl3, kC2, kP0, kP1, ev, evs, evParts, evO, Nat.reduceLT, Nat.reduceEqDiff, reduceIte, fr0, okConst, okc, appendA, cellsA, boxA, allocA, storeA, loadA, fieldA, indexA, fieldV, indexV, partA, extractA, nilA, binA, intBin, unA, lenA, isAggD, isConst, Nat.reduceAdd, Nat.reduceMul, Nat.reduceLeDiff, Nat.reduceSub, Nat.reduceBEq, splice, reduceCtorEq, Int.reduceEq, Int.reduceLT, Int.reduceLE, Int.reduceNeg, Int.reduceBEq, String.reduceEq, eqFlat, tf, aOpI, frL_cons]
    refine hK _ _ ?_
    clear hK
    refine AWp.ret ?_
    simp -implicitDefEqProofs only [vcT, wantedA, kp, kp2, kpS, kr, k1, k2, kL, kLP, kFn, kFn2, kSl, kSl2, kSl3, kC2, kP0, kP1, ev, evs, evParts, evO, Nat.reduceLT, Nat.reduceEqDiff, reduceIte, fr0, okConst, okc, appendA, cellsA, boxA, allocA, storeA, loadA, fieldA, indexA, fieldV, indexV, partA, extractA, nilA, binA, intBin, unA, lenA, isAggD, isConst, Nat.reduceAdd, Nat.reduceMul, Nat.reduceLeDiff, Nat.reduceSub, Nat.reduceBEq, splice, reduceCtorEq, Int.reduceEq, Int.reduceLT, Int.reduceLE, Int.reduceNeg, Int.reduceBEq, String.reduceEq, eqFlat, tf, aOpI, ThenA, BlockA, EndA, ressA, resA, wrapA, frL_cons]
    exact ⟨.slice none 0 0, S ++ [], by simp, WkR.keep hc [] rfl (by decide) (by simp) (.const _ rfl), [], hO, rfl, rfl⟩
  have e1 : idxV (S.length + 1) M = .slice (some ⟨S.length + 1, 0, none⟩) M.length 1 := by rw [idxV, if_neg he]
  have e2 : idxR M = [.row 3 true (ints M)] := by rw [idxR, if_neg he]
  have b1 : M.length ≤ 9223372036854775807 := by omega
  simp -implicitDefEqProofs only [vcT, wantedA, kp, kp2, kpS, kr, k1, k2, kL, kLP, kFn, kFn2, kSl, kSl2, kSl3, kC2, kP0, kP1, ev, evs, evParts, evO, Nat.reduceLT, Nat.reduceEqDiff, reduceIte, fr0, okConst, okc, appendA, cellsA, boxA, allocA, storeA, loadA, fieldA, indexA, fieldV, indexV, partA, extractA, nilA, binA, intBin, unA, lenA, isAggD, isConst, Nat.reduceAdd, Nat.reduceMul, Nat.reduceLeDiff, Nat.reduceSub, Nat.reduceBEq, splice, reduceCtorEq, Int.reduceEq, Int.reduceLT, Int.reduceLE, Int.reduceNeg, Int.reduceBEq, String.reduceEq, eqFlat, tf, aOpI, List.drop_succ_cons, List.drop_zero, e1, e2, ty34, b1]
  refine hK _ _ ?_
  clear hK
  refine AWp.block ?_
  refine AWp.loopW (fun q f S1 => ∃ j : Nat, q + j = M.length ∧
    f = frL [(1, .int .i64 nd), (2, .pointer (some ⟨S.length, 0, none⟩)), (5, winV (S.length + 2) (M.take j)), (10, .slice (some ⟨S.length + 1, 0, none⟩) M.length 1), (11, .int .i64 M.length), (12, .int .i64 j)] ∧
    S1 = S ++ (.row 26 true c.cells :: .row 3 true (ints M) :: winR ps (M.take j))) M.length
    ⟨_, _, Wk.frame ?_, 0, rfl, rfl, by simp [winR]⟩ ?_
  · simp only [List.forall_mem_cons, vcT, wantedA, kp, kp2, kpS, kr, k1, k2, kL, kLP, kFn, kFn2, kSl, kSl2, kSl3, kC2, kP0, kP1, ev, evs, evParts, evO, Nat.reduceLT, Nat.reduceEqDiff, reduceIte, fr0, okConst, okc, appendA, cellsA, boxA, allocA, storeA, loadA, fieldA, indexA, fieldV, indexV, partA, extractA, nilA, binA, intBin, unA, lenA, isAggD, isConst, Nat.reduceAdd, Nat.reduceMul, Nat.reduceLeDiff, Nat.reduceSub, Nat.reduceBEq, splice, reduceCtorEq, Int.reduceEq, Int.reduceLT, Int.reduceLE, Int.reduceNeg, Int.reduceBEq, String.reduceEq, eqFlat, tf, aOpI]
    simp [winV]
  rintro q f S1 ⟨j, hqj, rfl, rfl⟩
  refine AWp.seq_region tok fun K hK => ?_
  simp -implicitDefEqProofs only [vcT, wantedA, kp, kp2, kpS, kr, k1, k2, kL, kLP, kFn, kFn2, kSl, kSl2, kSl3, kC2, kP0, kP1, ev, evs, evParts, evO, Nat.reduceLT, Nat.reduceEqDiff, reduceIte, fr0, okConst, okc, appendA, cellsA, boxA, allocA, storeA, loadA, fieldA, indexA, fieldV, indexV, partA, extractA, nilA, binA, intBin, unA, lenA, isAggD, isConst, Nat.reduceAdd, Nat.reduceMul, Nat.reduceLeDiff, Nat.reduceSub, Nat.reduceBEq, splice, reduceCtorEq, Int.reduceEq, Int.reduceLT, Int.reduceLE, Int.reduceNeg, Int.reduceBEq, String.reduceEq, eqFlat, tf, aOpI, frL_cons]
  refine hK _ _ ?_
  clear hK
  refine AWp.seqK fun K1 hK1 => ?_
  refine AWp.condP ((j : Int) < (M.length : Int)) (by simp only [vcT, wantedA, kp, kp2, kpS, kr, k1, k2, kL, kLP, kFn, kFn2, kSl, kSl2, kSl3, kC2, kP0, kP1, ev, evs, evParts, evO, Nat.reduceLT, Nat.reduceEqDiff, reduceIte, fr0, okConst, okc, appendA, cellsA, boxA, allocA, storeA, loadA, fieldA, indexA, fieldV, indexV, partA, extractA, nilA, binA, intBin, unA, lenA, isAggD, isConst, Nat.reduceAdd, Nat.reduceMul, Nat.reduceLeDiff, Nat.reduceSub, Nat.reduceBEq, splice, reduceCtorEq, Int.reduceEq, Int.reduceLT, Int.reduceLE, Int.reduceNeg, Int.reduceBEq, String.reduceEq, eqFlat, tf, aOpI]) (fun h => ?_) (fun h => ?_)
  rotate_left
  · refine AWp.exit ?_
    simp only [ThenA, BlockA, if_true]
    refine hK0 _ _ ?_
    obtain rfl : j = M.length := by omega
    refine AWp.seq_region tok fun K hK => ?_
    simp -implicitDefEqProofs only [vcT, wantedA, kp, kp2, kpS, kr, k1, k2, kL, kLP, kFn, kFn2, kSl, kSl2, kSl3, kC2, kP0, kP1, ev, evs, evParts, evO, Nat.reduceLT, Nat.reduceEqDiff, reduceIte, fr0, okConst, okc, appendA, cellsA, boxA, allocA, storeA, loadA, fieldA, indexA, fieldV, indexV, partA, extractA, nilA, binA, intBin, unA, lenA, isAggD, isConst, Nat.reduceAdd, Nat.reduceMul, Nat.reduceLeDiff, Nat.reduceSub, Nat.reduceBEq, splice, reduceCtorEq, Int.reduceEq, Int.reduceLT, Int.reduceLE, Int.reduceNeg, Int.reduceBEq, String.reduceEq, eqFlat, tf, aOpI, frL_cons]
    refine hK _ _ ?_
    clear hK
    refine AWp.ret ?_
    simp -implicitDefEqProofs only [vcT, wantedA, kp, kp2, kpS, kr, k1, k2, kL, kLP, kFn, kFn2, kSl, kSl2, kSl3, kC2, kP0, kP1, ev, evs, evParts, evO, Nat.reduceLT, Nat.reduceEqDiff, reduceIte, fr0, okConst, okc, appendA, cellsA, boxA, allocA, storeA, loadA, fieldA, indexA, fieldV, indexV, partA, extractA, nilA, binA, intBin, unA, lenA, isAggD, isConst, Nat.reduceAdd, Nat.reduceMul, Nat.reduceLeDiff, Nat.reduceSub, Nat.reduceBEq, splice, reduceCtorEq, Int.reduceEq, Int.reduceLT, Int.reduceLE, Int.reduceNeg, Int.reduceBEq, String.reduceEq, eqFlat, tf, aOpI, ThenA, BlockA, EndA, ressA, resA, wrapA, frL_cons]
    have e3 : winV (S.length + 2) M = .slice (some ⟨S.length + 2, 0, none⟩) M.length 3 := by rw [winV, if_neg he]
    have e4 : winR ps M = [.row 41 true (rowW ps M)] := by rw [winR, if_neg he]
    rw [List.take_length, e3, e4]
    refine ⟨_, _, by simp, WkR.keep hc [2] ?_ (by decide) ?_ ?_, M, hO, rfl, rfl⟩
    · rw [e4]; rfl
    · rw [e4]
      simp only [List.forall_mem_cons, List.not_mem_nil, false_implies, implies_true, and_true, RowCl]
      exact rowW_closed _ _ _
    · rw [winV, if_neg he]
      exact .slice _ _ _ _ _ (keepOf_ge (j := 0) rfl)
  refine AWp.skip ?_
  refine hK1 _ _ ?_
  clear hK1
  have hjl : j < M.length := by omega
  obtain ⟨x, hx⟩ : ∃ x, M[j]? = some x := ⟨_, List.getElem?_eq_getElem hjl⟩
  obtain ⟨p, hpx⟩ : ∃ p, ps[x]? = some p := ⟨_, List.getElem?_eq_getElem (hlt x (List.mem_of_getElem? hx))⟩
  have g0 := ints_get hx
  have g1 := hp.lt hpx
  have g2 := hp.start hpx
  have g3 := hp.len hpx
  have g4 : ∀ R, (S ++ R)[o]? = some (.row 39 rw cs) := fun R => at_old h6 R
  have b2 : 0 ≤ (j : Int) ∧ (j : Int) < (M.length : Int) := by omega
  have w1 : IntKind.wrap .i64 ((j : Int) + 1) = ((j + 1 : Nat) : Int) := by rw [IntKind.wrap_i64]; omega
  have hpt : ptOf ps x = p := by simp [ptOf, List.getD_eq_getElem?_getD, hpx]
  have htk : M.take (j + 1) = M.take j ++ [x] := by rw [List.take_add_one, hx]; rfl
  have hwc : wcells ps x = [.int .i64 x, .int .i64 p.start, .int .i64 (IntKind.wrap .i64 (p.start + p.len))] := by rw [wcells, wTo, hpt]
  refine AWp.seqK fun K1 hK1 => ?_
  refine AWp.block ?_
  refine AWp.seq_region tok fun K hK => ?_
  simp -implicitDefEqProofs only [vcT, wantedA, kp, kp2, kpS, kr, k1, k2, kL, kLP, kFn, kFn2, kSl, kSl2, kSl3, kC2, kP0, kP1, ev, evs, evParts, evO, Nat.reduceLT, Nat.reduceEqDiff, reduceIte, fr0, okConst, okc, appendA, cellsA, boxA, allocA, storeA, loadA, fieldA, indexA, fieldV, indexV, partA, extractA, nilA, binA, intBin, unA, lenA, isAggD, isConst, Nat.reduceAdd, Nat.reduceMul, Nat.reduceLeDiff, Nat.reduceSub, Nat.reduceBEq, splice, reduceCtorEq, Int.reduceEq, Int.reduceLT, Int.reduceLE, Int.reduceNeg, Int.reduceBEq, String.reduceEq, eqFlat, tf, aOpI, frL_cons, ty34, ty3, b2, g0, Int.toNat_natCast, Nat.mul_one]
  refine hK _ _ ?_
  clear hK
  have htl : (M.take j).length = j := by simp; omega
  rcases Nat.eq_zero_or_pos j with hj0 | hj0
  · subst hj0
    have q1 : winV (S.length + 2) [] = .slice none 0 0 := rfl
    have q2 : winR ps [] = [] := rfl
    have q3 : winV (S.length + 2) (M.take 1) = .slice (some ⟨S.length + 2, 0, none⟩) 1 3 := by rw [htk]; rfl
    have q4 : winR ps (M.take 1) = [.row 41 true (wcells ps x)] := by rw [htk]; simp [winR, rowW]
    rw [List.take_zero, q2]
    refine AWp.drawK tok mixed [(0, 3), (1, 3), (2, 3), (3, 0), (4, 3), (5, 3), (6, 3), (7, 0), (8, 3), (9, 0), (10, 3), (11, 3), (12, 3), (13, 0), (14, 3), (15, 0), (16, 1), (17, 1), (18, 1), (19, 1), (20, 1), (21, 1), (22, 1), (23, 1), (24, 2)] (S ++ [.row 26 true c.cells]) (by kernel_rfl) (by simp only [le_cons1]) fun K hK => ?_
    simp -implicitDefEqProofs only [vcT, wantedA, kp, kp2, kpS, kr, k1, k2, kL, kLP, kFn, kFn2, kSl, kSl2, kSl3, kC2, kP0, kP1, ev, evs, evParts, evO, Nat.reduceLT, Nat.reduceEqDiff, reduceIte, fr0, okConst, okc, appendA, cellsA, boxA, allocA, storeA, loadA, fieldA, indexA, fieldV, indexV, partA, extractA, nilA, binA, intBin, unA, lenA, isAggD, isConst, Nat.reduceAdd, Nat.reduceMul, Nat.reduceLeDiff, Nat.reduceSub, Nat.reduceBEq, splice, reduceCtorEq, Int.reduceEq, Int.reduceLT, Int.reduceLE, Int.reduceNeg, Int.reduceBEq, String.reduceEq, eqFlat, tf, aOpI, frL_cons, q1, ty26, ty22, ty39, ty3, ty32, ty41, Cf.solid_val, Cf.val_cells, List.toList_toArray, Cf.c0, Cf.c1, Cf.c2, Cf.c3, Cf.c4, Cf.c5, Cf.c6, Cf.c7, Cf.c8, Cf.c9, Cf.c10, Cf.len, Cf.take11, Cf.fold, h5, g1, g2, g3, g4, bd41, bs32_1, Int.toNat_natCast]
    refine hK _ _ ?_
    clear hK
    refine hK1 _ _ ?_
    refine AWp.regionK tok fun K hK => ?_
    simp -implicitDefEqProofs only [vcT, wantedA, kp, kp2, kpS, kr, k1, k2, kL, kLP, kFn, kFn2, kSl, kSl2, kSl3, kC2, kP0, kP1, ev, evs, evParts, evO, Nat.reduceLT, Nat.reduceEqDiff, reduceIte, fr0, okConst, okc, appendA, cellsA, boxA, allocA, storeA, loadA, fieldA, indexA, fieldV, indexV, partA, extractA, nilA, binA, intBin, unA, lenA, isAggD, isConst, Nat.reduceAdd, Nat.reduceMul, Nat.reduceLeDiff, Nat.reduceSub, Nat.reduceBEq, splice, reduceCtorEq, Int.reduceEq, Int.reduceLT, Int.reduceLE, Int.reduceNeg, Int.reduceBEq, String.reduceEq, eqFlat, tf, aOpI, frL_cons, w1]
    refine hK _ _ ?_
    refine ⟨q - 1, _, _, by omega, Wk.keep hc [0, 1, 3] ?_ (by decide) ?_ ?_, 1, by omega, rfl, by rw [q4]⟩
    · rw [hwc]; rfl
    · rw [hwc]
      simp only [List.forall_mem_cons, List.not_mem_nil, false_implies, implies_true, and_true, RowCl]
      exact ⟨hcl, ints_closed _ _, .const _ rfl, .const _ rfl, .const _ rfl⟩
    · simp -implicitDefEqProofs only [List.forall_mem_cons, List.not_mem_nil, false_implies, implies_true, vcT, wantedA, kp, kp2, kpS, kr, k1, k2, kL, kLP, kFn, kFn2, kSl, kSl2, kSl3, kC2, kP0, kP1, ev, evs, evParts, evO, Nat.reduceLT, Nat.reduceEqDiff, reduceIte, fr0, okConst, okc, appendA, cellsA, boxA, allocA, storeA, loadA, fieldA, indexA, fieldV, indexV, partA, extractA, nilA, binA, intBin, unA, lenA, isAggD, isConst, Nat.reduceAdd, Nat.reduceMul, Nat.reduceLeDiff, Nat.reduceSub, Nat.reduceBEq, splice, reduceCtorEq, Int.reduceEq, Int.reduceLT, Int.reduceLE, Int.reduceNeg, Int.reduceBEq, String.reduceEq, eqFlat, tf, aOpI, frL_cons, q3, Int.natCast_zero, Nat.zero_add, Int.zero_add]
      exact ⟨.const _ rfl, .ptr _ _ _ keepOf_0, .slice _ _ _ _ _ (keepOf_ge (j := 2) rfl), .slice _ _ _ _ _ (keepOf_ge (j := 1) rfl), .const _ rfl, .const _ rfl⟩
  · have hne : M.take j ≠ [] := by intro h0; rw [h0] at htl; simp at htl; omega
    have hne' : M.take (j + 1) ≠ [] := by rw [htk]; simp
    have q1 : winV (S.length + 2) (M.take j) = .slice (some ⟨S.length + 2, 0, none⟩) j 3 := by rw [winV, if_neg hne, htl]
    have q2 : winR ps (M.take j) = [.row 41 true (rowW ps (M.take j))] := by rw [winR, if_neg hne]
    have q3 : winV (S.length + 2) (M.take (j + 1)) = .slice (some ⟨S.length + 2, 0, none⟩) (j + 1) 3 := by rw [winV, if_neg hne', htk]; simp [htl]
    have q4 : winR ps (M.take (j + 1)) = [.row 41 true (rowW ps (M.take j) ++ wcells ps x)] := by rw [winR, if_neg hne', htk, rowW_snoc]
    have c1 : (j + 1) * 24 ≤ 140737488355328 := by omega
    have c2 : j + 1 ≤ 9223372036854775807 := by omega
    have c3 : (rowW ps (M.take j)).take (j * 3) = rowW ps (M.take j) := by
      have := rowW_len ps (M.take j)
      rw [htl] at this
      rw [← this, List.take_length]
    have c4 : (rowW ps (M.take j)).length = j * 3 := by rw [rowW_len, htl]
    rw [q2]
    refine AWp.drawK tok mixed [(0, 3), (1, 3), (2, 3), (3, 0), (4, 3), (5, 3), (6, 3), (7, 0), (8, 3), (9, 0), (10, 3), (11, 3), (12, 3), (13, 0), (14, 3), (15, 0), (16, 1), (17, 1), (18, 1), (19, 1), (20, 1), (21, 1), (22, 1), (23, 1), (24, 2)] (S ++ [.row 26 true c.cells]) (by kernel_rfl) (by simp only [le_cons1]) fun K hK => ?_
    simp -implicitDefEqProofs only [vcT, wantedA, kp, kp2, kpS, kr, k1, k2, kL, kLP, kFn, kFn2, kSl, kSl2, kSl3, kC2, kP0, kP1, ev, evs, evParts, evO, Nat.reduceLT, Nat.reduceEqDiff, reduceIte, fr0, okConst, okc, appendA, cellsA, boxA, allocA, storeA, loadA, fieldA, indexA, fieldV, indexV, partA, extractA, nilA, binA, intBin, unA, lenA, isAggD, isConst, Nat.reduceAdd, Nat.reduceMul, Nat.reduceLeDiff, Nat.reduceSub, Nat.reduceBEq, splice, reduceCtorEq, Int.reduceEq, Int.reduceLT, Int.reduceLE, Int.reduceNeg, Int.reduceBEq, String.reduceEq, eqFlat, tf, aOpI, frL_cons, q1, ty26, ty22, ty39, ty3, ty32, ty41, Cf.solid_val, Cf.val_cells, List.toList_toArray, Cf.c0, Cf.c1, Cf.c2, Cf.c3, Cf.c4, Cf.c5, Cf.c6, Cf.c7, Cf.c8, Cf.c9, Cf.c10, Cf.len, Cf.take11, Cf.fold, h5, g1, g2, g3, g4, bd41, bs32_1, Int.toNat_natCast, c1, c2, c3, c4, Nat.le_refl]
    refine hK _ _ ?_
    clear hK
    refine hK1 _ _ ?_
    refine AWp.regionK tok fun K hK => ?_
    simp -implicitDefEqProofs only [vcT, wantedA, kp, kp2, kpS, kr, k1, k2, kL, kLP, kFn, kFn2, kSl, kSl2, kSl3, kC2, kP0, kP1, ev, evs, evParts, evO, Nat.reduceLT, Nat.reduceEqDiff, reduceIte, fr0, okConst, okc, appendA, cellsA, boxA, allocA, storeA, loadA, fieldA, indexA, fieldV, indexV, partA, extractA, nilA, binA, intBin, unA, lenA, isAggD, isConst, Nat.reduceAdd, Nat.reduceMul, Nat.reduceLeDiff, Nat.reduceSub, Nat.reduceBEq, splice, reduceCtorEq, Int.reduceEq, Int.reduceLT, Int.reduceLE, Int.reduceNeg, Int.reduceBEq, String.reduceEq, eqFlat, tf, aOpI, frL_cons, w1]
    refine hK _ _ ?_
    refine ⟨q - 1, _, _, by omega, Wk.keep hc [0, 1, 4] ?_ (by decide) ?_ ?_, j + 1, by omega, rfl, by rw [q4]⟩
    · rw [hwc]; rfl
    · rw [← rowW_snoc]
      simp only [List.forall_mem_cons, List.not_mem_nil, false_implies, implies_true, and_true, RowCl]
      exact ⟨hcl, ints_closed _ _, rowW_closed _ _ _⟩
    · simp -implicitDefEqProofs only [List.forall_mem_cons, List.not_mem_nil, false_implies, implies_true, vcT, wantedA, kp, kp2, kpS, kr, k1, k2, kL, kLP, kFn, kFn2, kSl, kSl2, kSl3, kC2, kP0, kP1, ev, evs, evParts, evO, Nat.reduceLT, Nat.reduceEqDiff, reduceIte, fr0, okConst, okc, appendA, cellsA, boxA, allocA, storeA, loadA, fieldA, indexA, fieldV, indexV, partA, extractA, nilA, binA, intBin, unA, lenA, isAggD, isConst, Nat.reduceAdd, Nat.reduceMul, Nat.reduceLeDiff, Nat.reduceSub, Nat.reduceBEq, splice, reduceCtorEq, Int.reduceEq, Int.reduceLT, Int.reduceLE, Int.reduceNeg, Int.reduceBEq, String.reduceEq, eqFlat, tf, aOpI, frL_cons, q3]
      exact ⟨.const _ rfl, .ptr _ _ _ keepOf_0, .slice _ _ _ _ _ (keepOf_ge (j := 2) rfl), .slice _ _ _ _ _ (keepOf_ge (j := 1) rfl), .const _ rfl, .const _ rfl⟩
end Go.Proofs.Ytoikfhpbkpljlaa
