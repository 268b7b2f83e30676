/- The document's order of a node's parts, walked; and the copy of tables. -/
import Derived.Test.YtoikfhpbkpljlaaAbF18
namespace Go.Proofs.Ytoikfhpbkpljlaa
open Go.Ab
set_option linter.unusedSimpArgs false
set_option linter.unusedVariables false

/-- How many of a list begin no later. -/
def posO (ps : List Pt) (i : Nat) : List Nat → Nat
  | [] => 0
  | x :: L => if (ptOf ps x).start ≤ (ptOf ps i).start then posO ps i L + 1 else 0
def insO (ps : List Pt) (L : List Nat) (i : Nat) : List Nat := L.take (posO ps i L) ++ i :: L.drop (posO ps i L)
def ordO (ps : List Pt) (nd : Int) (i : Nat) : List Nat := (sel ps nd i).foldl (insO ps) []
theorem posO_le (ps : List Pt) (i : Nat) : ∀ L, posO ps i L ≤ L.length
  | [] => Nat.le_refl _
  | x :: L => by
    have := posO_le ps i L
    simp only [posO]
    split <;> simp <;> omega
theorem posO_lt {ps : List Pt} {i : Nat} : ∀ {L : List Nat} {k x : Nat}, k < posO ps i L → L[k]? = some x → (ptOf ps x).start ≤ (ptOf ps i).start
  | y :: L, k, x, hk, hx => by
    simp only [posO] at hk
    split at hk
    · rename_i h
      cases k with
      | zero => simp at hx; subst hx; exact h
      | succ k => exact posO_lt (by omega : k < posO ps i L) (by simpa using hx)
    · omega
theorem posO_at {ps : List Pt} {i : Nat} : ∀ {L : List Nat} {x : Nat}, L[posO ps i L]? = some x → ¬ (ptOf ps x).start ≤ (ptOf ps i).start
  | y :: L, x, hx => by
    simp only [posO] at hx
    split at hx
    · exact posO_at (by simpa using hx)
    · rename_i h
      simp at hx; subst hx; exact h
theorem insO_len (ps : List Pt) (L : List Nat) (i : Nat) : (insO ps L i).length = L.length + 1 := by
  have := posO_le ps i L
  simp [insO]; omega
theorem ordO_len (ps : List Pt) (nd : Int) (i : Nat) : (ordO ps nd i).length = (sel ps nd i).length := by
  have : ∀ (M L : List Nat), (M.foldl (insO ps) L).length = L.length + M.length := by
    intro M
    induction M with
    | nil => intro L; rfl
    | cons x M ih => intro L; rw [List.foldl_cons, ih, insO_len]; simp; omega
  simpa [ordO] using this (sel ps nd i) []
theorem insO_mem {ps : List Pt} {L : List Nat} {i x : Nat} (h : x ∈ insO ps L i) : x = i ∨ x ∈ L := by
  simp only [insO, List.mem_append, List.mem_cons] at h
  rcases h with h | h | h
  · exact .inr (List.mem_of_mem_take h)
  · exact .inl h
  · exact .inr (List.mem_of_mem_drop h)
theorem ordO_mem {ps : List Pt} {nd : Int} {i x : Nat} (h : x ∈ ordO ps nd i) : x ∈ sel ps nd i := by
  have : ∀ (M L : List Nat), (∀ y ∈ M.foldl (insO ps) L, y ∈ L ∨ y ∈ M) := by
    intro M
    induction M with
    | nil => intro L y hy; exact .inl hy
    | cons z M ih =>
      intro L y hy
      rcases ih _ y hy with h | h
      · rcases insO_mem h with h | h
        · exact .inr (by simp [h])
        · exact .inl h
      · exact .inr (by simp [h])
  rcases this _ _ x h with h | h
  · simp at h
  · exact h
theorem bs34_0 (S : St) : buildSliceA TT S 34 0 [] = some (.slice (some ⟨S.length, 0, none⟩) 0 1, S ++ [.row 3 true []]) := by kernel_rfl
theorem bs34_1' (S : St) (a : Int) : buildSliceA TT S 34 1 [(0, .int .i64 a)] = some (.slice (some ⟨S.length, 0, none⟩) 1 1, S ++ [.row 3 true [.int .i64 a]]) := by kernel_rfl

theorem leNil (S : St) : Le [] S = True := eq_true (fun o ty rw cs h => by simp at h)
theorem cut_lo {T : Tab} {t e : TypeId} {i : TI} {a b : Nat} {z : Value} (ht : T t = some ⟨.slice e, a, z, b⟩) (he : T e = some i) (hi : i.size = 1) (o : Nat) (L : List Value) (at_ : Nat) (hat : at_ ≤ L.length) :
    ∃ v, sliceA T t (growV o L.length 1) none (some (.int .i64 at_)) = some v ∧ ∀ S : St, S[o]? = some (growR e L) → cellsA S 1 v = some (at_, L.take at_) := by
  rcases Nat.eq_zero_or_pos L.length with h0 | h0
  · have : L = [] := List.eq_nil_of_length_eq_zero h0
    subst this
    obtain rfl : at_ = 0 := by simpa using hat
    refine ⟨.slice none 0 0, ?_, fun S hS => rfl⟩
    unfold sliceA
    rw [ht]
    simp [growV, he, bnd]
  · refine ⟨.slice (some ⟨o, 0, none⟩) at_ 1, ?_, fun S hS => ?_⟩
    · unfold sliceA
      rw [ht, growV_pos h0]
      simp [he, hi, bnd, hat]
    · have hne : L ≠ [] := by rintro rfl; simp at h0
      rw [growR_pos hne] at hS
      simp [cellsA, hS, hat]
theorem cut_hi {T : Tab} {t e : TypeId} {i : TI} {a b : Nat} {z : Value} (ht : T t = some ⟨.slice e, a, z, b⟩) (he : T e = some i) (hi : i.size = 1) (o : Nat) (L : List Value) (at_ : Nat) (hat : at_ ≤ L.length) :
    ∃ v, sliceA T t (growV o L.length 1) (some (.int .i64 at_)) none = some v ∧ ∀ S : St, S[o]? = some (growR e L) → cellsA S 1 v = some (L.length - at_, L.drop at_) := by
  rcases Nat.eq_zero_or_pos L.length with h0 | h0
  · have : L = [] := List.eq_nil_of_length_eq_zero h0
    subst this
    obtain rfl : at_ = 0 := by simpa using hat
    refine ⟨.slice none 0 0, ?_, fun S hS => rfl⟩
    unfold sliceA
    rw [ht]
    simp [growV, he, bnd]
  · refine ⟨.slice (some ⟨o, at_, none⟩) (L.length - at_) 1, ?_, fun S hS => ?_⟩
    · unfold sliceA
      rw [ht, growV_pos h0]
      simp [he, hi, bnd, hat]
    · have hne : L ≠ [] := by rintro rfl; simp at h0
      rw [growR_pos hne] at hS
      have h1 : at_ + (L.length - at_) ≤ L.length := by omega
      simp [cellsA, hS, h1]
      rw [List.take_of_length_le (by simp)]

theorem enter12 (cargs : Array Value) (w : World) : (callFunc 12 cargs).run Try.prog w = .ok (.enter 12 cargs) w := by kernel_rfl
set_option maxHeartbeats 2000000 in
theorem call12 {S : St} {c : Cf} {ps : List Pt} {o k s : Nat} {rw : Bool} {cs : List Value} (hp : PtAt S c ps o k s rw cs) (nd : Int) :
    ACalls Try.prog 12 [c.val, .int .i64 nd] S (fun r S' => r = growV S.length (ordO ps nd ps.length).length 1 ∧ S' = S ++ [growR 3 (ints (ordO ps nd ps.length))]) := by
  refine ACalls.weak (ACalls.of tok enter12 Try.func12 rfl (m := 60) rfl (by simp) (rs := [.tmp 4]) rfl fun hc ha => ?_)
  have hcl := cells_closed (ha c.val (by simp))
  have h5 := hp.v
  have h6 := hp.at_.row
  have hsm := hp.small
  have b0 : ps.length ≤ 9223372036854775807 := by omega
  clear ha
  refine AWp.seq_region tok fun K hK => ?_
  simp -implicitDefEqProofs only [vcT, wantedA, kp, kp2, kpS, kr, k1, k2, kL, kLP, kFn, kFn2, kSl, kSl2, kSl3, kC2, kP0, kP1, ev, evs, evParts, evO, Nat.reduceLT, Nat.reduceEqDiff, reduceIte, fr0, okConst, okc, appendA, cellsA, boxA, allocA, storeA, loadA, fieldA, indexA, fieldV, indexV, partA, extractA, nilA, binA, intBin, unA, lenA, isAggD, isConst, Nat.reduceAdd, Nat.reduceMul, Nat.reduceLeDiff, Nat.reduceSub, Nat.reduceBEq, splice, reduceCtorEq, Int.reduceEq, Int.reduceLT, Int.reduceLE, Int.reduceNeg, Int.reduceBEq, String.reduceEq, eqFlat, tf, aOpI, Cf.solid_val, Cf.val_cells, List.toList_toArray, Cf.c0, Cf.c1, Cf.c2, Cf.c3, Cf.c4, Cf.c5, Cf.c6, Cf.c7, Cf.c8, Cf.c9, Cf.c10, Cf.len, Cf.take11, Cf.fold]
  refine hK _ _ ?_
  clear hK
  refine AWp.seq_region tok fun K hK => ?_
  simp -implicitDefEqProofs only [vcT, wantedA, kp, kp2, kpS, kr, k1, k2, kL, kLP, kFn, kFn2, kSl, kSl2, kSl3, kC2, kP0, kP1, ev, evs, evParts, evO, Nat.reduceLT, Nat.reduceEqDiff, reduceIte, fr0, okConst, okc, appendA, cellsA, boxA, allocA, storeA, loadA, fieldA, indexA, fieldV, indexV, partA, extractA, nilA, binA, intBin, unA, lenA, isAggD, isConst, Nat.reduceAdd, Nat.reduceMul, Nat.reduceLeDiff, Nat.reduceSub, Nat.reduceBEq, splice, reduceCtorEq, Int.reduceEq, Int.reduceLT, Int.reduceLE, Int.reduceNeg, Int.reduceBEq, String.reduceEq, eqFlat, tf, aOpI]
  refine hK _ _ ?_
  clear hK
  refine AWp.seqK fun K0 hK0 => ?_
  refine AWp.seq_region tok fun K hK => ?_
  simp -implicitDefEqProofs only [vcT, wantedA, kp, kp2, kpS, kr, k1, k2, kL, kLP, kFn, kFn2, kSl, kSl2, kSl3, kC2, kP0, kP1, ev, evs, evParts, evO, Nat.reduceLT, Nat.reduceEqDiff, reduceIte, fr0, okConst, okc, appendA, cellsA, boxA, allocA, storeA, loadA, fieldA, indexA, fieldV, indexV, partA, extractA, nilA, binA, intBin, unA, lenA, isAggD, isConst, Nat.reduceAdd, Nat.reduceMul, Nat.reduceLeDiff, Nat.reduceSub, Nat.reduceBEq, splice, reduceCtorEq, Int.reduceEq, Int.reduceLT, Int.reduceLE, Int.reduceNeg, Int.reduceBEq, String.reduceEq, eqFlat, tf, aOpI]
  refine hK _ _ ?_
  clear hK
  refine AWp.block ?_
  refine AWp.loopW (fun q f S1 => ∃ j : Nat, q + j = ps.length ∧
    f = frL [(1, .int .i64 nd), (2, .pointer (some ⟨S.length, 0, none⟩)), (5, growV (S.length + 1) (ordO ps nd j).length 1), (6, .int .i64 j)] ∧
    S1 = S ++ [.row 26 true c.cells, growR 3 (ints (ordO ps nd j))]) ps.length
    ⟨_, _, Wk.addDead (Wk.frame ?_), 0, rfl, rfl, by simp [ordO, sel, ints, growR_nil]⟩ ?_
  · simp only [List.forall_mem_cons, vcT, wantedA, kp, kp2, kpS, kr, k1, k2, kL, kLP, kFn, kFn2, kSl, kSl2, kSl3, kC2, kP0, kP1, ev, evs, evParts, evO, Nat.reduceLT, Nat.reduceEqDiff, reduceIte, fr0, okConst, okc, appendA, cellsA, boxA, allocA, storeA, loadA, fieldA, indexA, fieldV, indexV, partA, extractA, nilA, binA, intBin, unA, lenA, isAggD, isConst, Nat.reduceAdd, Nat.reduceMul, Nat.reduceLeDiff, Nat.reduceSub, Nat.reduceBEq, splice, reduceCtorEq, Int.reduceEq, Int.reduceLT, Int.reduceLE, Int.reduceNeg, Int.reduceBEq, String.reduceEq, eqFlat, tf, aOpI, sel, ordO, List.foldl_nil, growV_zero]
    simp [growV_zero]
  rintro q f S1 ⟨j, hqj, rfl, rfl⟩
  refine AWp.seqK fun K1 hK1 => ?_
  refine AWp.seq_region tok fun K hK => ?_
  simp -implicitDefEqProofs only [vcT, wantedA, kp, kp2, kpS, kr, k1, k2, kL, kLP, kFn, kFn2, kSl, kSl2, kSl3, kC2, kP0, kP1, ev, evs, evParts, evO, Nat.reduceLT, Nat.reduceEqDiff, reduceIte, fr0, okConst, okc, appendA, cellsA, boxA, allocA, storeA, loadA, fieldA, indexA, fieldV, indexV, partA, extractA, nilA, binA, intBin, unA, lenA, isAggD, isConst, Nat.reduceAdd, Nat.reduceMul, Nat.reduceLeDiff, Nat.reduceSub, Nat.reduceBEq, splice, reduceCtorEq, Int.reduceEq, Int.reduceLT, Int.reduceLE, Int.reduceNeg, Int.reduceBEq, String.reduceEq, eqFlat, tf, aOpI, frL_cons, ty26, ty22, ty3, Cf.solid_val, Cf.val_cells, List.toList_toArray, Cf.c0, Cf.c1, Cf.c2, Cf.c3, Cf.c4, Cf.c5, Cf.c6, Cf.c7, Cf.c8, Cf.c9, Cf.c10, Cf.len, Cf.take11, Cf.fold, h5, b0]
  refine hK _ _ ?_
  clear hK
  refine AWp.condP ((j : Int) < (ps.length : Int)) (by simp only [vcT, wantedA, kp, kp2, kpS, kr, k1, k2, kL, kLP, kFn, kFn2, kSl, kSl2, kSl3, kC2, kP0, kP1, ev, evs, evParts, evO, Nat.reduceLT, Nat.reduceEqDiff, reduceIte, fr0, okConst, okc, appendA, cellsA, boxA, allocA, storeA, loadA, fieldA, indexA, fieldV, indexV, partA, extractA, nilA, binA, intBin, unA, lenA, isAggD, isConst, Nat.reduceAdd, Nat.reduceMul, Nat.reduceLeDiff, Nat.reduceSub, Nat.reduceBEq, splice, reduceCtorEq, Int.reduceEq, Int.reduceLT, Int.reduceLE, Int.reduceNeg, Int.reduceBEq, String.reduceEq, eqFlat, tf, aOpI]) (fun h => ?_) (fun h => ?_)
  rotate_left
  · refine AWp.exit ?_
    simp only [ThenA, BlockA, if_true]
    refine hK0 _ _ ?_
    obtain rfl : j = ps.length := by omega
    refine AWp.seq_region tok fun K hK => ?_
    simp -implicitDefEqProofs only [vcT, wantedA, kp, kp2, kpS, kr, k1, k2, kL, kLP, kFn, kFn2, kSl, kSl2, kSl3, kC2, kP0, kP1, ev, evs, evParts, evO, Nat.reduceLT, Nat.reduceEqDiff, reduceIte, fr0, okConst, okc, appendA, cellsA, boxA, allocA, storeA, loadA, fieldA, indexA, fieldV, indexV, partA, extractA, nilA, binA, intBin, unA, lenA, isAggD, isConst, Nat.reduceAdd, Nat.reduceMul, Nat.reduceLeDiff, Nat.reduceSub, Nat.reduceBEq, splice, reduceCtorEq, Int.reduceEq, Int.reduceLT, Int.reduceLE, Int.reduceNeg, Int.reduceBEq, String.reduceEq, eqFlat, tf, aOpI, frL_cons]
    refine hK _ _ ?_
    clear hK
    refine AWp.ret ?_
    simp -implicitDefEqProofs only [vcT, wantedA, kp, kp2, kpS, kr, k1, k2, kL, kLP, kFn, kFn2, kSl, kSl2, kSl3, kC2, kP0, kP1, ev, evs, evParts, evO, Nat.reduceLT, Nat.reduceEqDiff, reduceIte, fr0, okConst, okc, appendA, cellsA, boxA, allocA, storeA, loadA, fieldA, indexA, fieldV, indexV, partA, extractA, nilA, binA, intBin, unA, lenA, isAggD, isConst, Nat.reduceAdd, Nat.reduceMul, Nat.reduceLeDiff, Nat.reduceSub, Nat.reduceBEq, splice, reduceCtorEq, Int.reduceEq, Int.reduceLT, Int.reduceLE, Int.reduceNeg, Int.reduceBEq, String.reduceEq, eqFlat, tf, aOpI, ThenA, BlockA, EndA, ressA, resA, wrapA, frL_cons]
    refine ⟨_, _, by simp, WkR.keep hc [1] rfl (by decide) ?_ (Ren.grow (keepOf_ge (j := 0) rfl) _ _), rfl, rfl⟩
    simp only [List.forall_mem_cons, List.not_mem_nil, false_implies, implies_true, and_true]
    exact RowCl.grow (ints_closed _ _)
  refine AWp.skip ?_
  refine hK1 _ _ ?_
  clear hK1
  have hjl : j < ps.length := by omega
  obtain ⟨p, hpi⟩ : ∃ p, ps[j]? = some p := ⟨_, List.getElem?_eq_getElem hjl⟩
  have g1 := hp.lt hpi
  have g2 := hp.node hpi
  have g3 := hp.start hpi
  have g4 : ∀ R, (S ++ R)[o]? = some (.row 39 rw cs) := fun R => at_old h6 R
  have w1 : IntKind.wrap .i64 ((j : Int) + 1) = ((j + 1 : Nat) : Int) := by rw [IntKind.wrap_i64]; omega
  have hf := foldl_sel (insO ps) [] (nd := nd) hpi
  have hpt := ptOf_get hpi
  have hLs := ordO_len ps nd j
  have hsl := sel_len ps nd j
  obtain ⟨L, hL⟩ : ∃ L, ordO ps nd j = L := ⟨_, rfl⟩
  have hf' : ordO ps nd (j + 1) = if p.node = nd then insO ps L j else L := by rw [← hL]; exact hf
  have hlen : L.length ≤ 20 := by rw [← hL]; omega
  have hmem : ∀ x ∈ L, x < j := fun x hx => sel_lt x (ordO_mem (hL ▸ hx))
  rw [hL]
  clear hf hLs hsl hL
  refine AWp.seqK fun K1 hK1 => ?_
  refine AWp.block ?_
  have hnext : ∀ (f : Fr) (S1 : St), Wk 60 S.length f S1 (frL [(1, .int .i64 nd), (2, .pointer (some ⟨S.length, 0, none⟩)), (5, growV (S.length + 1) (ordO ps nd (j + 1)).length 1), (6, .int .i64 j)]) (S ++ [.row 26 true c.cells, growR 3 (ints (ordO ps nd (j + 1)))]) → K1 f S1 := by
    intro f S1 hw
    refine hK1 _ _ ?_
    refine AWp.weak hw ?_
    refine AWp.regionK tok fun K hK => ?_
    simp -implicitDefEqProofs only [vcT, wantedA, kp, kp2, kpS, kr, k1, k2, kL, kLP, kFn, kFn2, kSl, kSl2, kSl3, kC2, kP0, kP1, ev, evs, evParts, evO, Nat.reduceLT, Nat.reduceEqDiff, reduceIte, fr0, okConst, okc, appendA, cellsA, boxA, allocA, storeA, loadA, fieldA, indexA, fieldV, indexV, partA, extractA, nilA, binA, intBin, unA, lenA, isAggD, isConst, Nat.reduceAdd, Nat.reduceMul, Nat.reduceLeDiff, Nat.reduceSub, Nat.reduceBEq, splice, reduceCtorEq, Int.reduceEq, Int.reduceLT, Int.reduceLE, Int.reduceNeg, Int.reduceBEq, String.reduceEq, eqFlat, tf, aOpI, frL_cons, w1]
    refine hK _ _ ?_
    exact ⟨q - 1, _, _, by omega, Wk.frame (by simp only [List.forall_mem_cons, vcT, wantedA, kp, kp2, kpS, kr, k1, k2, kL, kLP, kFn, kFn2, kSl, kSl2, kSl3, kC2, kP0, kP1, ev, evs, evParts, evO, Nat.reduceLT, Nat.reduceEqDiff, reduceIte, fr0, okConst, okc, appendA, cellsA, boxA, allocA, storeA, loadA, fieldA, indexA, fieldV, indexV, partA, extractA, nilA, binA, intBin, unA, lenA, isAggD, isConst, Nat.reduceAdd, Nat.reduceMul, Nat.reduceLeDiff, Nat.reduceSub, Nat.reduceBEq, splice, reduceCtorEq, Int.reduceEq, Int.reduceLT, Int.reduceLE, Int.reduceNeg, Int.reduceBEq, String.reduceEq, eqFlat, tf, aOpI, frL_cons]; simp), j + 1, by omega, rfl, rfl⟩
  clear hK1
  refine AWp.seqK fun K2 hK2 => ?_
  refine AWp.seq_region tok fun K hK => ?_
  simp -implicitDefEqProofs only [vcT, wantedA, kp, kp2, kpS, kr, k1, k2, kL, kLP, kFn, kFn2, kSl, kSl2, kSl3, kC2, kP0, kP1, ev, evs, evParts, evO, Nat.reduceLT, Nat.reduceEqDiff, reduceIte, fr0, okConst, okc, appendA, cellsA, boxA, allocA, storeA, loadA, fieldA, indexA, fieldV, indexV, partA, extractA, nilA, binA, intBin, unA, lenA, isAggD, isConst, Nat.reduceAdd, Nat.reduceMul, Nat.reduceLeDiff, Nat.reduceSub, Nat.reduceBEq, splice, reduceCtorEq, Int.reduceEq, Int.reduceLT, Int.reduceLE, Int.reduceNeg, Int.reduceBEq, String.reduceEq, eqFlat, tf, aOpI, frL_cons, ty26, ty22, ty39, ty3, Cf.solid_val, Cf.val_cells, List.toList_toArray, Cf.c0, Cf.c1, Cf.c2, Cf.c3, Cf.c4, Cf.c5, Cf.c6, Cf.c7, Cf.c8, Cf.c9, Cf.c10, Cf.len, Cf.take11, Cf.fold, h5, g1, g2, g4, Int.toNat_natCast]
  refine hK _ _ ?_
  clear hK
  refine AWp.condB (p.node != nd) (by simp -implicitDefEqProofs only [vcT, wantedA, kp, kp2, kpS, kr, k1, k2, kL, kLP, kFn, kFn2, kSl, kSl2, kSl3, kC2, kP0, kP1, ev, evs, evParts, evO, Nat.reduceLT, Nat.reduceEqDiff, reduceIte, fr0, okConst, okc, appendA, cellsA, boxA, allocA, storeA, loadA, fieldA, indexA, fieldV, indexV, partA, extractA, nilA, binA, intBin, unA, lenA, isAggD, isConst, Nat.reduceAdd, Nat.reduceMul, Nat.reduceLeDiff, Nat.reduceSub, Nat.reduceBEq, splice, reduceCtorEq, Int.reduceEq, Int.reduceLT, Int.reduceLE, Int.reduceNeg, Int.reduceBEq, String.reduceEq, eqFlat, tf, aOpI]) (fun hn => ?_) (fun hn => ?_)
  · have hn' : ¬ p.node = nd := by simpa using hn
    rw [if_neg hn'] at hf'
    refine AWp.exit ?_
    simp only [ThenA, BlockA, if_true]
    refine hnext _ _ ?_
    rw [hf']
    exact Wk.frame (by simp only [List.forall_mem_cons, vcT, wantedA, kp, kp2, kpS, kr, k1, k2, kL, kLP, kFn, kFn2, kSl, kSl2, kSl3, kC2, kP0, kP1, ev, evs, evParts, evO, Nat.reduceLT, Nat.reduceEqDiff, reduceIte, fr0, okConst, okc, appendA, cellsA, boxA, allocA, storeA, loadA, fieldA, indexA, fieldV, indexV, partA, extractA, nilA, binA, intBin, unA, lenA, isAggD, isConst, Nat.reduceAdd, Nat.reduceMul, Nat.reduceLeDiff, Nat.reduceSub, Nat.reduceBEq, splice, reduceCtorEq, Int.reduceEq, Int.reduceLT, Int.reduceLE, Int.reduceNeg, Int.reduceBEq, String.reduceEq, eqFlat, tf, aOpI, frL_cons]; simp)
  have hn' : p.node = nd := by simpa using hn
  rw [if_pos hn'] at hf'
  refine AWp.skip ?_
  refine hK2 _ _ ?_
  clear hK2
  have hpos := posO_le ps j L
  refine AWp.seq_region tok fun K hK => ?_
  simp -implicitDefEqProofs only [vcT, wantedA, kp, kp2, kpS, kr, k1, k2, kL, kLP, kFn, kFn2, kSl, kSl2, kSl3, kC2, kP0, kP1, ev, evs, evParts, evO, Nat.reduceLT, Nat.reduceEqDiff, reduceIte, fr0, okConst, okc, appendA, cellsA, boxA, allocA, storeA, loadA, fieldA, indexA, fieldV, indexV, partA, extractA, nilA, binA, intBin, unA, lenA, isAggD, isConst, Nat.reduceAdd, Nat.reduceMul, Nat.reduceLeDiff, Nat.reduceSub, Nat.reduceBEq, splice, reduceCtorEq, Int.reduceEq, Int.reduceLT, Int.reduceLE, Int.reduceNeg, Int.reduceBEq, String.reduceEq, eqFlat, tf, aOpI]
  refine hK _ _ ?_
  clear hK
  refine AWp.seqK fun K3 hK3 => ?_
  refine AWp.block ?_
  refine AWp.loopW (fun qq f S1 => ∃ i : Nat, qq + i = posO ps j L ∧
    f = frL [(1, .int .i64 nd), (2, .pointer (some ⟨S.length, 0, none⟩)), (5, growV (S.length + 1) L.length 1), (6, .int .i64 j), (7, .int .i64 i)] ∧
    S1 = S ++ [.row 26 true c.cells, growR 3 (ints L)]) (posO ps j L)
    ⟨_, _, Wk.frame ?_, 0, rfl, rfl, rfl⟩ ?_
  · simp only [List.forall_mem_cons, vcT, wantedA, kp, kp2, kpS, kr, k1, k2, kL, kLP, kFn, kFn2, kSl, kSl2, kSl3, kC2, kP0, kP1, ev, evs, evParts, evO, Nat.reduceLT, Nat.reduceEqDiff, reduceIte, fr0, okConst, okc, appendA, cellsA, boxA, allocA, storeA, loadA, fieldA, indexA, fieldV, indexV, partA, extractA, nilA, binA, intBin, unA, lenA, isAggD, isConst, Nat.reduceAdd, Nat.reduceMul, Nat.reduceLeDiff, Nat.reduceSub, Nat.reduceBEq, splice, reduceCtorEq, Int.reduceEq, Int.reduceLT, Int.reduceLE, Int.reduceNeg, Int.reduceBEq, String.reduceEq, eqFlat, tf, aOpI, frL_cons]
    simp
  rintro qq f S1 ⟨i, hqi, rfl, rfl⟩
  have hlg := lenA_grow (T := TT) ty34
  have w2 : IntKind.wrap .i64 ((i : Int) + 1) = ((i + 1 : Nat) : Int) := by rw [IntKind.wrap_i64]; omega
  have hgt : ∀ x, L[i]? = some x → ∃ px, ps[x]? = some px ∧ ptOf ps x = px ∧ (0 ≤ (x : Int) ∧ (x : Int) < (ps.length : Int)) ∧ cs[k + x * 9 + 1]? = some (.int .i64 px.start) ∧ (0 ≤ (i : Int) ∧ (i : Int) < (L.length : Int)) ∧
      growV (S.length + 1) L.length 1 = .slice (some ⟨S.length + 1, 0, none⟩) L.length 1 ∧ growR 3 (ints L) = .row 3 true (ints L) := by
    intro x hx
    have hxl := hmem x (List.mem_of_getElem? hx)
    have hil := (List.getElem?_eq_some_iff.1 hx).1
    obtain ⟨px, hpx⟩ : ∃ px, ps[x]? = some px := ⟨_, List.getElem?_eq_getElem (by omega)⟩
    have hne : ints L ≠ [] := by
      intro e
      have : (ints L).length = 0 := by rw [e]; rfl
      rw [ints_len] at this
      omega
    exact ⟨px, hpx, ptOf_get hpx, hp.lt hpx, hp.start hpx, by omega, growV_pos (by omega), growR_pos hne⟩
  refine AWp.seqK fun K4 hK4 => ?_
  rcases Nat.lt_or_ge i (posO ps j L) with hi | hi
  · obtain ⟨x, hx⟩ : ∃ x, L[i]? = some x := ⟨_, List.getElem?_eq_getElem (by omega)⟩
    obtain ⟨px, hpx, hpo, y1, y2, y3, y4, y5⟩ := hgt x hx
    have y6 := ints_get hx
    have hle : px.start ≤ p.start := by have := posO_lt hi hx; rw [hpo, hpt] at this; exact this
    have y3' := y3.2
    rw [y4, y5]
    refine AWp.seq_draw tok mixed [(0, 3), (1, 1), (2, 1), (3, 1), (4, 1), (5, 3), (6, 0), (7, 3), (8, 3), (9, 3), (10, 0), (11, 3), (12, 3), (13, 0), (14, 3), (15, 0), (16, 1), (17, 1), (18, 1), (19, 1), (20, 1), (21, 1)] _ (by kernel_rfl) (Le.refl _) fun K hK => ?_
    simp -implicitDefEqProofs only [vcT, wantedA, kp, kp2, kpS, kr, k1, k2, kL, kLP, kFn, kFn2, kSl, kSl2, kSl3, kC2, kP0, kP1, ev, evs, evParts, evO, Nat.reduceLT, Nat.reduceEqDiff, reduceIte, fr0, okConst, okc, appendA, cellsA, boxA, allocA, storeA, loadA, fieldA, indexA, fieldV, indexV, partA, extractA, nilA, binA, intBin, unA, lenA, isAggD, isConst, Nat.reduceAdd, Nat.reduceMul, Nat.reduceLeDiff, Nat.reduceSub, Nat.reduceBEq, splice, reduceCtorEq, Int.reduceEq, Int.reduceLT, Int.reduceLE, Int.reduceNeg, Int.reduceBEq, String.reduceEq, eqFlat, tf, aOpI, frL_cons, ty26, ty22, ty39, ty34, ty3, Cf.solid_val, Cf.val_cells, List.toList_toArray, Cf.c0, Cf.c1, Cf.c2, Cf.c3, Cf.c4, Cf.c5, Cf.c6, Cf.c7, Cf.c8, Cf.c9, Cf.c10, Cf.len, Cf.take11, Cf.fold, h5, g1, g3, g4, y1, y2, y3, y3', y6, hle, Nat.mul_one, Int.toNat_natCast]
    refine hK _ _ ?_
    clear hK
    refine AWp.condT (by simp -implicitDefEqProofs only [vcT, wantedA, kp, kp2, kpS, kr, k1, k2, kL, kLP, kFn, kFn2, kSl, kSl2, kSl3, kC2, kP0, kP1, ev, evs, evParts, evO, Nat.reduceLT, Nat.reduceEqDiff, reduceIte, fr0, okConst, okc, appendA, cellsA, boxA, allocA, storeA, loadA, fieldA, indexA, fieldV, indexV, partA, extractA, nilA, binA, intBin, unA, lenA, isAggD, isConst, Nat.reduceAdd, Nat.reduceMul, Nat.reduceLeDiff, Nat.reduceSub, Nat.reduceBEq, splice, reduceCtorEq, Int.reduceEq, Int.reduceLT, Int.reduceLE, Int.reduceNeg, Int.reduceBEq, String.reduceEq, eqFlat, tf, aOpI]) ?_
    refine AWp.skip ?_
    refine hK4 _ _ ?_
    clear hK4
    refine AWp.block ?_
    refine AWp.regionK tok fun K hK => ?_
    simp -implicitDefEqProofs only [vcT, wantedA, kp, kp2, kpS, kr, k1, k2, kL, kLP, kFn, kFn2, kSl, kSl2, kSl3, kC2, kP0, kP1, ev, evs, evParts, evO, Nat.reduceLT, Nat.reduceEqDiff, reduceIte, fr0, okConst, okc, appendA, cellsA, boxA, allocA, storeA, loadA, fieldA, indexA, fieldV, indexV, partA, extractA, nilA, binA, intBin, unA, lenA, isAggD, isConst, Nat.reduceAdd, Nat.reduceMul, Nat.reduceLeDiff, Nat.reduceSub, Nat.reduceBEq, splice, reduceCtorEq, Int.reduceEq, Int.reduceLT, Int.reduceLE, Int.reduceNeg, Int.reduceBEq, String.reduceEq, eqFlat, tf, aOpI, frL_cons, w2]
    refine hK _ _ ?_
    refine ⟨qq - 1, _, _, by omega, Wk.frame (by simp only [List.forall_mem_cons, vcT, wantedA, kp, kp2, kpS, kr, k1, k2, kL, kLP, kFn, kFn2, kSl, kSl2, kSl3, kC2, kP0, kP1, ev, evs, evParts, evO, Nat.reduceLT, Nat.reduceEqDiff, reduceIte, fr0, okConst, okc, appendA, cellsA, boxA, allocA, storeA, loadA, fieldA, indexA, fieldV, indexV, partA, extractA, nilA, binA, intBin, unA, lenA, isAggD, isConst, Nat.reduceAdd, Nat.reduceMul, Nat.reduceLeDiff, Nat.reduceSub, Nat.reduceBEq, splice, reduceCtorEq, Int.reduceEq, Int.reduceLT, Int.reduceLE, Int.reduceNeg, Int.reduceBEq, String.reduceEq, eqFlat, tf, aOpI, frL_cons, y4]; simp), i + 1, by omega, rfl, by rw [y5]⟩
  obtain rfl : i = posO ps j L := by omega
  have hend : ∀ f : Fr, f 1 = .int .i64 nd → f 2 = .pointer (some ⟨S.length, 0, none⟩) → f 5 = growV (S.length + 1) L.length 1 → f 6 = .int .i64 j → f 7 = .int .i64 (posO ps j L) → K3 f (S ++ [.row 26 true c.cells, growR 3 (ints L)]) := by
    intro f f1 f2 f5 f6 f7
    refine hK3 _ _ ?_
    clear hK3
    obtain ⟨lo, s1, s2⟩ := cut_lo (T := TT) ty34 ty3 rfl (S.length + 1) (ints L) (posO ps j L) (by rw [ints_len]; exact hpos)
    obtain ⟨hi_, s3, s4⟩ := cut_hi (T := TT) ty34 ty3 rfl (S.length + 1) (ints L) (posO ps j L) (by rw [ints_len]; exact hpos)
    rw [ints_len] at s1 s3 s4
    have hil := insO_len ps L j
    have m1 : (ints L).take (posO ps j L) = ints (L.take (posO ps j L)) := by simp [ints, List.map_take]
    have m2 : (ints L).drop (posO ps j L) = ints (L.drop (posO ps j L)) := by simp [ints, List.map_drop]
    have m3 : ints (L.take (posO ps j L)) ++ .int .i64 (j : Int) :: ints (L.drop (posO ps j L)) = ints (insO ps L j) := by simp [ints, insO]
    have m4 : posO ps j L + 1 + (L.length - posO ps j L) = (insO ps L j).length := by omega
    have hB : ∀ (f' : Fr) (S1 : St), f' 1 = .int .i64 nd → f' 2 = .pointer (some ⟨S.length, 0, none⟩) → f' 6 = .int .i64 j → ∀ (R : St), S1 = S ++ .row 26 true c.cells :: R → R[5]? = some (.row 3 true (ints (insO ps L j))) →
        f' 5 = .slice (some ⟨S.length + 6, 0, none⟩) (insO ps L j).length 1 → K1 f' S1 := by
      rintro f' S1 f1' f2' f6' R rfl hR f5'
      refine hnext _ _ ?_
      rw [hf']
      have hne : ints (insO ps L j) ≠ [] := by
        intro e
        have : (ints (insO ps L j)).length = 0 := by rw [e]; rfl
        rw [ints_len] at this
        omega
      rw [growV_pos (by omega), growR_pos hne]
      refine Wk.keep hc [0, 6] ?_ (by decide) ?_ ?_
      · simp only [List.map_cons, List.map_nil, List.getElem?_cons_zero, List.getElem?_cons_succ, hR]
      · simp only [List.forall_mem_cons, List.not_mem_nil, false_implies, implies_true, and_true, RowCl]
        exact ⟨hcl, ints_closed _ _⟩
      · simp -implicitDefEqProofs only [List.forall_mem_cons, List.not_mem_nil, false_implies, implies_true, vcT, wantedA, kp, kp2, kpS, kr, k1, k2, kL, kLP, kFn, kFn2, kSl, kSl2, kSl3, kC2, kP0, kP1, ev, evs, evParts, evO, Nat.reduceLT, Nat.reduceEqDiff, reduceIte, fr0, okConst, okc, appendA, cellsA, boxA, allocA, storeA, loadA, fieldA, indexA, fieldV, indexV, partA, extractA, nilA, binA, intBin, unA, lenA, isAggD, isConst, Nat.reduceAdd, Nat.reduceMul, Nat.reduceLeDiff, Nat.reduceSub, Nat.reduceBEq, splice, reduceCtorEq, Int.reduceEq, Int.reduceLT, Int.reduceLE, Int.reduceNeg, Int.reduceBEq, String.reduceEq, eqFlat, tf, aOpI, f1', f2', f5', f6']
        exact ⟨.const _ rfl, .ptr _ _ _ keepOf_0, .slice _ _ _ _ _ (keepOf_ge (j := 1) rfl), .const _ rfl⟩
    refine AWp.draws tok mixed [(1, 3), (2, 3), (3, 3), (5, 3), (8, 3), (9, 3), (10, 3)] [] 6 #[false, true, true, true, false, true, false, false, true, true, true, false, false] (by kernel_rfl) rfl (fun o ty rw cs h => by simp at h) fun K hK => ?_
    simp -implicitDefEqProofs only [vcT, wantedA, kp, kp2, kpS, kr, k1, k2, kL, kLP, kFn, kFn2, kSl, kSl2, kSl3, kC2, kP0, kP1, ev, evs, evParts, evO, Nat.reduceLT, Nat.reduceEqDiff, reduceIte, fr0, okConst, okc, appendA, cellsA, boxA, allocA, storeA, loadA, fieldA, indexA, fieldV, indexV, partA, extractA, nilA, binA, intBin, unA, lenA, isAggD, isConst, Nat.reduceAdd, Nat.reduceMul, Nat.reduceLeDiff, Nat.reduceSub, Nat.reduceBEq, splice, reduceCtorEq, Int.reduceEq, Int.reduceLT, Int.reduceLE, Int.reduceNeg, Int.reduceBEq, String.reduceEq, eqFlat, tf, aOpI, f5, f6, f7, s1, s3, forall_const]
    have hz : (ints (L.take (posO ps j L))).length = posO ps j L := by rw [ints_len]; simp; omega
    have kb1 : posO ps j L * 8 ≤ 140737488355328 := by omega
    have kb2 : posO ps j L ≤ 9223372036854775807 := by omega
    have kb3 : (posO ps j L + 1) * 8 ≤ 140737488355328 := by omega
    have kb4 : posO ps j L + 1 ≤ 9223372036854775807 := by omega
    have kb5 : (insO ps L j).length * 8 ≤ 140737488355328 := by omega
    have kb6 : (insO ps L j).length ≤ 9223372036854775807 := by omega
    have kb7 : (ints (L.take (posO ps j L))).take (posO ps j L) = ints (L.take (posO ps j L)) := by rw [List.take_of_length_le (by omega)]
    have kb8 : (ints (L.take (posO ps j L)) ++ [Value.int .i64 (j : Int)]).take (posO ps j L + 1) = ints (L.take (posO ps j L)) ++ [Value.int .i64 (j : Int)] := by rw [List.take_of_length_le (by simp only [List.length_append, hz, List.length_singleton]; omega)]
    have kb9 : (L.take (posO ps j L)).length = posO ps j L := by simp; omega
    refine aAny_fork (i := 0) (j := 6) (by kernel_rfl) ?_ ?_
    · simp -implicitDefEqProofs only [vcT, wantedA, kp, kp2, kpS, kr, k1, k2, kL, kLP, kFn, kFn2, kSl, kSl2, kSl3, kC2, kP0, kP1, ev, evs, evParts, evO, Nat.reduceLT, Nat.reduceEqDiff, reduceIte, fr0, okConst, okc, appendA, cellsA, boxA, allocA, storeA, loadA, fieldA, indexA, fieldV, indexV, partA, extractA, nilA, binA, intBin, unA, lenA, isAggD, isConst, Nat.reduceAdd, Nat.reduceMul, Nat.reduceLeDiff, Nat.reduceSub, Nat.reduceBEq, splice, reduceCtorEq, Int.reduceEq, Int.reduceLT, Int.reduceLE, Int.reduceNeg, Int.reduceBEq, String.reduceEq, eqFlat, tf, aOpI, bs34_0, bs34_1', ty34, ty3, s2, s4, m1, m2, m3, m4, ints_len, kb1, kb2, kb3, kb4, kb5, kb6, kb7, kb8, kb9, Nat.mul_one, Nat.le_refl, leNil, f6]
      refine aAny_fork (i := 4) (j := 6) (by kernel_rfl) ?_ ?_
      · simp -implicitDefEqProofs only [vcT, wantedA, kp, kp2, kpS, kr, k1, k2, kL, kLP, kFn, kFn2, kSl, kSl2, kSl3, kC2, kP0, kP1, ev, evs, evParts, evO, Nat.reduceLT, Nat.reduceEqDiff, reduceIte, fr0, okConst, okc, appendA, boxA, allocA, storeA, loadA, fieldA, indexA, fieldV, indexV, partA, extractA, nilA, binA, intBin, unA, lenA, isAggD, isConst, Nat.reduceAdd, Nat.reduceMul, Nat.reduceLeDiff, Nat.reduceSub, Nat.reduceBEq, splice, reduceCtorEq, Int.reduceEq, Int.reduceLT, Int.reduceLE, Int.reduceNeg, Int.reduceBEq, String.reduceEq, eqFlat, tf, aOpI, bs34_0, bs34_1', ty34, ty3, s2, s4, m1, m2, m3, m4, ints_len, kb1, kb2, kb3, kb4, kb5, kb6, kb7, kb8, kb9, Nat.mul_one, Nat.le_refl, leNil, f6]
        refine aAny_one (i := 6) (by kernel_rfl) ?_
        simp -implicitDefEqProofs only [vcT, wantedA, kp, kp2, kpS, kr, k1, k2, kL, kLP, kFn, kFn2, kSl, kSl2, kSl3, kC2, kP0, kP1, ev, evs, evParts, evO, Nat.reduceLT, Nat.reduceEqDiff, reduceIte, fr0, okConst, okc, appendA, cellsA, boxA, allocA, storeA, loadA, fieldA, indexA, fieldV, indexV, partA, extractA, nilA, binA, intBin, unA, lenA, isAggD, isConst, Nat.reduceAdd, Nat.reduceMul, Nat.reduceLeDiff, Nat.reduceSub, Nat.reduceBEq, splice, reduceCtorEq, Int.reduceEq, Int.reduceLT, Int.reduceLE, Int.reduceNeg, Int.reduceBEq, String.reduceEq, eqFlat, tf, aOpI, bs34_0, bs34_1', ty34, ty3, s2, s4, m1, m2, m3, m4, ints_len, kb1, kb2, kb3, kb4, kb5, kb6, kb7, kb8, kb9, Nat.mul_one, Nat.le_refl, leNil, f6]
        refine aAny_one (i := 7) (by kernel_rfl) ?_
        simp -implicitDefEqProofs only [vcT, wantedA, kp, kp2, kpS, kr, k1, k2, kL, kLP, kFn, kFn2, kSl, kSl2, kSl3, kC2, kP0, kP1, ev, evs, evParts, evO, Nat.reduceLT, Nat.reduceEqDiff, reduceIte, fr0, okConst, okc, appendA, cellsA, boxA, allocA, storeA, loadA, fieldA, indexA, fieldV, indexV, partA, extractA, nilA, binA, intBin, unA, lenA, isAggD, isConst, Nat.reduceAdd, Nat.reduceMul, Nat.reduceLeDiff, Nat.reduceSub, Nat.reduceBEq, splice, reduceCtorEq, Int.reduceEq, Int.reduceLT, Int.reduceLE, Int.reduceNeg, Int.reduceBEq, String.reduceEq, eqFlat, tf, aOpI, bs34_0, bs34_1', ty34, ty3, s2, s4, m1, m2, m3, m4, ints_len, kb1, kb2, kb3, kb4, kb5, kb6, kb7, kb8, kb9, Nat.mul_one, Nat.le_refl, leNil, f6]
        refine aAny_one (i := 11) (by kernel_rfl) ?_
        simp -implicitDefEqProofs only [vcT, wantedA, kp, kp2, kpS, kr, k1, k2, kL, kLP, kFn, kFn2, kSl, kSl2, kSl3, kC2, kP0, kP1, ev, evs, evParts, evO, Nat.reduceLT, Nat.reduceEqDiff, reduceIte, fr0, okConst, okc, appendA, boxA, allocA, storeA, loadA, fieldA, indexA, fieldV, indexV, partA, extractA, nilA, binA, intBin, unA, lenA, isAggD, isConst, Nat.reduceAdd, Nat.reduceMul, Nat.reduceLeDiff, Nat.reduceSub, Nat.reduceBEq, splice, reduceCtorEq, Int.reduceEq, Int.reduceLT, Int.reduceLE, Int.reduceNeg, Int.reduceBEq, String.reduceEq, eqFlat, tf, aOpI, bs34_0, bs34_1', ty34, ty3, s2, s4, m1, m2, m3, m4, ints_len, kb1, kb2, kb3, kb4, kb5, kb6, kb7, kb8, kb9, Nat.mul_one, Nat.le_refl, leNil, f6]
        refine aAny_one (i := 12) (by kernel_rfl) ?_
        simp -implicitDefEqProofs only [vcT, wantedA, kp, kp2, kpS, kr, k1, k2, kL, kLP, kFn, kFn2, kSl, kSl2, kSl3, kC2, kP0, kP1, ev, evs, evParts, evO, Nat.reduceLT, Nat.reduceEqDiff, reduceIte, fr0, okConst, okc, appendA, cellsA, boxA, allocA, storeA, loadA, fieldA, indexA, fieldV, indexV, partA, extractA, nilA, binA, intBin, unA, lenA, isAggD, isConst, Nat.reduceAdd, Nat.reduceMul, Nat.reduceLeDiff, Nat.reduceSub, Nat.reduceBEq, splice, reduceCtorEq, Int.reduceEq, Int.reduceLT, Int.reduceLE, Int.reduceNeg, Int.reduceBEq, String.reduceEq, eqFlat, tf, aOpI, bs34_0, bs34_1', ty34, ty3, s2, s4, m1, m2, m3, m4, ints_len, kb1, kb2, kb3, kb4, kb5, kb6, kb7, kb8, kb9, Nat.mul_one, Nat.le_refl, leNil, f6]
        refine aAny_end (by kernel_rfl) ?_
        refine hK _ _ (hB _ _ ?_ ?_ ?_ _ rfl rfl ?_)
        all_goals simp -implicitDefEqProofs only [vcT, wantedA, kp, kp2, kpS, kr, k1, k2, kL, kLP, kFn, kFn2, kSl, kSl2, kSl3, kC2, kP0, kP1, ev, evs, evParts, evO, Nat.reduceLT, Nat.reduceEqDiff, reduceIte, fr0, okConst, okc, appendA, cellsA, boxA, allocA, storeA, loadA, fieldA, indexA, fieldV, indexV, partA, extractA, nilA, binA, intBin, unA, lenA, isAggD, isConst, Nat.reduceAdd, Nat.reduceMul, Nat.reduceLeDiff, Nat.reduceSub, Nat.reduceBEq, splice, reduceCtorEq, Int.reduceEq, Int.reduceLT, Int.reduceLE, Int.reduceNeg, Int.reduceBEq, String.reduceEq, eqFlat, tf, aOpI, f1, f2, f6]
      · simp -implicitDefEqProofs only [vcT, wantedA, kp, kp2, kpS, kr, k1, k2, kL, kLP, kFn, kFn2, kSl, kSl2, kSl3, kC2, kP0, kP1, ev, evs, evParts, evO, Nat.reduceLT, Nat.reduceEqDiff, reduceIte, fr0, okConst, okc, appendA, cellsA, boxA, allocA, storeA, loadA, fieldA, indexA, fieldV, indexV, partA, extractA, nilA, binA, intBin, unA, lenA, isAggD, isConst, Nat.reduceAdd, Nat.reduceMul, Nat.reduceLeDiff, Nat.reduceSub, Nat.reduceBEq, splice, reduceCtorEq, Int.reduceEq, Int.reduceLT, Int.reduceLE, Int.reduceNeg, Int.reduceBEq, String.reduceEq, eqFlat, tf, aOpI, bs34_0, bs34_1', ty34, ty3, s2, s4, m1, m2, m3, m4, ints_len, kb1, kb2, kb3, kb4, kb5, kb6, kb7, kb8, kb9, Nat.mul_one, Nat.le_refl, leNil, f6]
        refine aAny_one (i := 4) (by kernel_rfl) ?_
        simp -implicitDefEqProofs only [vcT, wantedA, kp, kp2, kpS, kr, k1, k2, kL, kLP, kFn, kFn2, kSl, kSl2, kSl3, kC2, kP0, kP1, ev, evs, evParts, evO, Nat.reduceLT, Nat.reduceEqDiff, reduceIte, fr0, okConst, okc, appendA, boxA, allocA, storeA, loadA, fieldA, indexA, fieldV, indexV, partA, extractA, nilA, binA, intBin, unA, lenA, isAggD, isConst, Nat.reduceAdd, Nat.reduceMul, Nat.reduceLeDiff, Nat.reduceSub, Nat.reduceBEq, splice, reduceCtorEq, Int.reduceEq, Int.reduceLT, Int.reduceLE, Int.reduceNeg, Int.reduceBEq, String.reduceEq, eqFlat, tf, aOpI, bs34_0, bs34_1', ty34, ty3, s2, s4, m1, m2, m3, m4, ints_len, kb1, kb2, kb3, kb4, kb5, kb6, kb7, kb8, kb9, Nat.mul_one, Nat.le_refl, leNil, f6]
        refine aAny_one (i := 7) (by kernel_rfl) ?_
        simp -implicitDefEqProofs only [vcT, wantedA, kp, kp2, kpS, kr, k1, k2, kL, kLP, kFn, kFn2, kSl, kSl2, kSl3, kC2, kP0, kP1, ev, evs, evParts, evO, Nat.reduceLT, Nat.reduceEqDiff, reduceIte, fr0, okConst, okc, appendA, cellsA, boxA, allocA, storeA, loadA, fieldA, indexA, fieldV, indexV, partA, extractA, nilA, binA, intBin, unA, lenA, isAggD, isConst, Nat.reduceAdd, Nat.reduceMul, Nat.reduceLeDiff, Nat.reduceSub, Nat.reduceBEq, splice, reduceCtorEq, Int.reduceEq, Int.reduceLT, Int.reduceLE, Int.reduceNeg, Int.reduceBEq, String.reduceEq, eqFlat, tf, aOpI, bs34_0, bs34_1', ty34, ty3, s2, s4, m1, m2, m3, m4, ints_len, kb1, kb2, kb3, kb4, kb5, kb6, kb7, kb8, kb9, Nat.mul_one, Nat.le_refl, leNil, f6]
        refine aAny_one (i := 11) (by kernel_rfl) ?_
        simp -implicitDefEqProofs only [vcT, wantedA, kp, kp2, kpS, kr, k1, k2, kL, kLP, kFn, kFn2, kSl, kSl2, kSl3, kC2, kP0, kP1, ev, evs, evParts, evO, Nat.reduceLT, Nat.reduceEqDiff, reduceIte, fr0, okConst, okc, appendA, boxA, allocA, storeA, loadA, fieldA, indexA, fieldV, indexV, partA, extractA, nilA, binA, intBin, unA, lenA, isAggD, isConst, Nat.reduceAdd, Nat.reduceMul, Nat.reduceLeDiff, Nat.reduceSub, Nat.reduceBEq, splice, reduceCtorEq, Int.reduceEq, Int.reduceLT, Int.reduceLE, Int.reduceNeg, Int.reduceBEq, String.reduceEq, eqFlat, tf, aOpI, bs34_0, bs34_1', ty34, ty3, s2, s4, m1, m2, m3, m4, ints_len, kb1, kb2, kb3, kb4, kb5, kb6, kb7, kb8, kb9, Nat.mul_one, Nat.le_refl, leNil, f6]
        refine aAny_one (i := 12) (by kernel_rfl) ?_
        simp -implicitDefEqProofs only [vcT, wantedA, kp, kp2, kpS, kr, k1, k2, kL, kLP, kFn, kFn2, kSl, kSl2, kSl3, kC2, kP0, kP1, ev, evs, evParts, evO, Nat.reduceLT, Nat.reduceEqDiff, reduceIte, fr0, okConst, okc, appendA, cellsA, boxA, allocA, storeA, loadA, fieldA, indexA, fieldV, indexV, partA, extractA, nilA, binA, intBin, unA, lenA, isAggD, isConst, Nat.reduceAdd, Nat.reduceMul, Nat.reduceLeDiff, Nat.reduceSub, Nat.reduceBEq, splice, reduceCtorEq, Int.reduceEq, Int.reduceLT, Int.reduceLE, Int.reduceNeg, Int.reduceBEq, String.reduceEq, eqFlat, tf, aOpI, bs34_0, bs34_1', ty34, ty3, s2, s4, m1, m2, m3, m4, ints_len, kb1, kb2, kb3, kb4, kb5, kb6, kb7, kb8, kb9, Nat.mul_one, Nat.le_refl, leNil, f6]
        refine aAny_end (by kernel_rfl) ?_
        refine hK _ _ (hB _ _ ?_ ?_ ?_ _ rfl rfl ?_)
        all_goals simp -implicitDefEqProofs only [vcT, wantedA, kp, kp2, kpS, kr, k1, k2, kL, kLP, kFn, kFn2, kSl, kSl2, kSl3, kC2, kP0, kP1, ev, evs, evParts, evO, Nat.reduceLT, Nat.reduceEqDiff, reduceIte, fr0, okConst, okc, appendA, cellsA, boxA, allocA, storeA, loadA, fieldA, indexA, fieldV, indexV, partA, extractA, nilA, binA, intBin, unA, lenA, isAggD, isConst, Nat.reduceAdd, Nat.reduceMul, Nat.reduceLeDiff, Nat.reduceSub, Nat.reduceBEq, splice, reduceCtorEq, Int.reduceEq, Int.reduceLT, Int.reduceLE, Int.reduceNeg, Int.reduceBEq, String.reduceEq, eqFlat, tf, aOpI, f1, f2, f6]
    · simp -implicitDefEqProofs only [vcT, wantedA, kp, kp2, kpS, kr, k1, k2, kL, kLP, kFn, kFn2, kSl, kSl2, kSl3, kC2, kP0, kP1, ev, evs, evParts, evO, Nat.reduceLT, Nat.reduceEqDiff, reduceIte, fr0, okConst, okc, appendA, cellsA, boxA, allocA, storeA, loadA, fieldA, indexA, fieldV, indexV, partA, extractA, nilA, binA, intBin, unA, lenA, isAggD, isConst, Nat.reduceAdd, Nat.reduceMul, Nat.reduceLeDiff, Nat.reduceSub, Nat.reduceBEq, splice, reduceCtorEq, Int.reduceEq, Int.reduceLT, Int.reduceLE, Int.reduceNeg, Int.reduceBEq, String.reduceEq, eqFlat, tf, aOpI, bs34_0, bs34_1', ty34, ty3, s2, s4, m1, m2, m3, m4, ints_len, kb1, kb2, kb3, kb4, kb5, kb6, kb7, kb8, kb9, Nat.mul_one, Nat.le_refl, leNil, f6]
      refine aAny_one (i := 0) (by kernel_rfl) ?_
      simp -implicitDefEqProofs only [vcT, wantedA, kp, kp2, kpS, kr, k1, k2, kL, kLP, kFn, kFn2, kSl, kSl2, kSl3, kC2, kP0, kP1, ev, evs, evParts, evO, Nat.reduceLT, Nat.reduceEqDiff, reduceIte, fr0, okConst, okc, appendA, cellsA, boxA, allocA, storeA, loadA, fieldA, indexA, fieldV, indexV, partA, extractA, nilA, binA, intBin, unA, lenA, isAggD, isConst, Nat.reduceAdd, Nat.reduceMul, Nat.reduceLeDiff, Nat.reduceSub, Nat.reduceBEq, splice, reduceCtorEq, Int.reduceEq, Int.reduceLT, Int.reduceLE, Int.reduceNeg, Int.reduceBEq, String.reduceEq, eqFlat, tf, aOpI, bs34_0, bs34_1', ty34, ty3, s2, s4, m1, m2, m3, m4, ints_len, kb1, kb2, kb3, kb4, kb5, kb6, kb7, kb8, kb9, Nat.mul_one, Nat.le_refl, leNil, f6]
      refine aAny_one (i := 4) (by kernel_rfl) ?_
      simp -implicitDefEqProofs only [vcT, wantedA, kp, kp2, kpS, kr, k1, k2, kL, kLP, kFn, kFn2, kSl, kSl2, kSl3, kC2, kP0, kP1, ev, evs, evParts, evO, Nat.reduceLT, Nat.reduceEqDiff, reduceIte, fr0, okConst, okc, appendA, boxA, allocA, storeA, loadA, fieldA, indexA, fieldV, indexV, partA, extractA, nilA, binA, intBin, unA, lenA, isAggD, isConst, Nat.reduceAdd, Nat.reduceMul, Nat.reduceLeDiff, Nat.reduceSub, Nat.reduceBEq, splice, reduceCtorEq, Int.reduceEq, Int.reduceLT, Int.reduceLE, Int.reduceNeg, Int.reduceBEq, String.reduceEq, eqFlat, tf, aOpI, bs34_0, bs34_1', ty34, ty3, s2, s4, m1, m2, m3, m4, ints_len, kb1, kb2, kb3, kb4, kb5, kb6, kb7, kb8, kb9, Nat.mul_one, Nat.le_refl, leNil, f6]
      refine aAny_one (i := 7) (by kernel_rfl) ?_
      simp -implicitDefEqProofs only [vcT, wantedA, kp, kp2, kpS, kr, k1, k2, kL, kLP, kFn, kFn2, kSl, kSl2, kSl3, kC2, kP0, kP1, ev, evs, evParts, evO, Nat.reduceLT, Nat.reduceEqDiff, reduceIte, fr0, okConst, okc, appendA, cellsA, boxA, allocA, storeA, loadA, fieldA, indexA, fieldV, indexV, partA, extractA, nilA, binA, intBin, unA, lenA, isAggD, isConst, Nat.reduceAdd, Nat.reduceMul, Nat.reduceLeDiff, Nat.reduceSub, Nat.reduceBEq, splice, reduceCtorEq, Int.reduceEq, Int.reduceLT, Int.reduceLE, Int.reduceNeg, Int.reduceBEq, String.reduceEq, eqFlat, tf, aOpI, bs34_0, bs34_1', ty34, ty3, s2, s4, m1, m2, m3, m4, ints_len, kb1, kb2, kb3, kb4, kb5, kb6, kb7, kb8, kb9, Nat.mul_one, Nat.le_refl, leNil, f6]
      refine aAny_one (i := 11) (by kernel_rfl) ?_
      simp -implicitDefEqProofs only [vcT, wantedA, kp, kp2, kpS, kr, k1, k2, kL, kLP, kFn, kFn2, kSl, kSl2, kSl3, kC2, kP0, kP1, ev, evs, evParts, evO, Nat.reduceLT, Nat.reduceEqDiff, reduceIte, fr0, okConst, okc, appendA, boxA, allocA, storeA, loadA, fieldA, indexA, fieldV, indexV, partA, extractA, nilA, binA, intBin, unA, lenA, isAggD, isConst, Nat.reduceAdd, Nat.reduceMul, Nat.reduceLeDiff, Nat.reduceSub, Nat.reduceBEq, splice, reduceCtorEq, Int.reduceEq, Int.reduceLT, Int.reduceLE, Int.reduceNeg, Int.reduceBEq, String.reduceEq, eqFlat, tf, aOpI, bs34_0, bs34_1', ty34, ty3, s2, s4, m1, m2, m3, m4, ints_len, kb1, kb2, kb3, kb4, kb5, kb6, kb7, kb8, kb9, Nat.mul_one, Nat.le_refl, leNil, f6]
      refine aAny_one (i := 12) (by kernel_rfl) ?_
      simp -implicitDefEqProofs only [vcT, wantedA, kp, kp2, kpS, kr, k1, k2, kL, kLP, kFn, kFn2, kSl, kSl2, kSl3, kC2, kP0, kP1, ev, evs, evParts, evO, Nat.reduceLT, Nat.reduceEqDiff, reduceIte, fr0, okConst, okc, appendA, cellsA, boxA, allocA, storeA, loadA, fieldA, indexA, fieldV, indexV, partA, extractA, nilA, binA, intBin, unA, lenA, isAggD, isConst, Nat.reduceAdd, Nat.reduceMul, Nat.reduceLeDiff, Nat.reduceSub, Nat.reduceBEq, splice, reduceCtorEq, Int.reduceEq, Int.reduceLT, Int.reduceLE, Int.reduceNeg, Int.reduceBEq, String.reduceEq, eqFlat, tf, aOpI, bs34_0, bs34_1', ty34, ty3, s2, s4, m1, m2, m3, m4, ints_len, kb1, kb2, kb3, kb4, kb5, kb6, kb7, kb8, kb9, Nat.mul_one, Nat.le_refl, leNil, f6]
      refine aAny_end (by kernel_rfl) ?_
      refine hK _ _ (hB _ _ ?_ ?_ ?_ _ rfl rfl ?_)
      all_goals simp -implicitDefEqProofs only [vcT, wantedA, kp, kp2, kpS, kr, k1, k2, kL, kLP, kFn, kFn2, kSl, kSl2, kSl3, kC2, kP0, kP1, ev, evs, evParts, evO, Nat.reduceLT, Nat.reduceEqDiff, reduceIte, fr0, okConst, okc, appendA, cellsA, boxA, allocA, storeA, loadA, fieldA, indexA, fieldV, indexV, partA, extractA, nilA, binA, intBin, unA, lenA, isAggD, isConst, Nat.reduceAdd, Nat.reduceMul, Nat.reduceLeDiff, Nat.reduceSub, Nat.reduceBEq, splice, reduceCtorEq, Int.reduceEq, Int.reduceLT, Int.reduceLE, Int.reduceNeg, Int.reduceBEq, String.reduceEq, eqFlat, tf, aOpI, f1, f2, f6]
  rcases Nat.lt_or_ge (posO ps j L) L.length with hlt | hge
  · obtain ⟨x, hx⟩ : ∃ x, L[posO ps j L]? = some x := ⟨_, List.getElem?_eq_getElem hlt⟩
    obtain ⟨px, hpx, hpo, y1, y2, y3, y4, y5⟩ := hgt x hx
    have y6 := ints_get hx
    have hle : ¬ px.start ≤ p.start := by have := posO_at hx; rw [hpo, hpt] at this; exact this
    have y3' := y3.2
    rw [y4, y5] at hend ⊢
    refine AWp.seq_draw tok mixed [(0, 3), (1, 1), (2, 1), (3, 1), (4, 1), (5, 3), (6, 0), (7, 3), (8, 3), (9, 3), (10, 0), (11, 3), (12, 3), (13, 0), (14, 3), (15, 0), (16, 1), (17, 1), (18, 1), (19, 1), (20, 1), (21, 1)] _ (by kernel_rfl) (Le.refl _) fun K hK => ?_
    simp -implicitDefEqProofs only [vcT, wantedA, kp, kp2, kpS, kr, k1, k2, kL, kLP, kFn, kFn2, kSl, kSl2, kSl3, kC2, kP0, kP1, ev, evs, evParts, evO, Nat.reduceLT, Nat.reduceEqDiff, reduceIte, fr0, okConst, okc, appendA, cellsA, boxA, allocA, storeA, loadA, fieldA, indexA, fieldV, indexV, partA, extractA, nilA, binA, intBin, unA, lenA, isAggD, isConst, Nat.reduceAdd, Nat.reduceMul, Nat.reduceLeDiff, Nat.reduceSub, Nat.reduceBEq, splice, reduceCtorEq, Int.reduceEq, Int.reduceLT, Int.reduceLE, Int.reduceNeg, Int.reduceBEq, String.reduceEq, eqFlat, tf, aOpI, frL_cons, ty26, ty22, ty39, ty34, ty3, Cf.solid_val, Cf.val_cells, List.toList_toArray, Cf.c0, Cf.c1, Cf.c2, Cf.c3, Cf.c4, Cf.c5, Cf.c6, Cf.c7, Cf.c8, Cf.c9, Cf.c10, Cf.len, Cf.take11, Cf.fold, h5, g1, g3, g4, y1, y2, y3, y3', y6, hle, Nat.mul_one, Int.toNat_natCast]
    refine hK _ _ ?_
    clear hK
    refine AWp.condF (by simp -implicitDefEqProofs only [vcT, wantedA, kp, kp2, kpS, kr, k1, k2, kL, kLP, kFn, kFn2, kSl, kSl2, kSl3, kC2, kP0, kP1, ev, evs, evParts, evO, Nat.reduceLT, Nat.reduceEqDiff, reduceIte, fr0, okConst, okc, appendA, cellsA, boxA, allocA, storeA, loadA, fieldA, indexA, fieldV, indexV, partA, extractA, nilA, binA, intBin, unA, lenA, isAggD, isConst, Nat.reduceAdd, Nat.reduceMul, Nat.reduceLeDiff, Nat.reduceSub, Nat.reduceBEq, splice, reduceCtorEq, Int.reduceEq, Int.reduceLT, Int.reduceLE, Int.reduceNeg, Int.reduceBEq, String.reduceEq, eqFlat, tf, aOpI]) ?_
    refine AWp.exit ?_
    simp only [ThenA, BlockA, if_true]
    refine hend _ ?_ ?_ ?_ ?_ ?_
    all_goals simp -implicitDefEqProofs only [vcT, wantedA, kp, kp2, kpS, kr, k1, k2, kL, kLP, kFn, kFn2, kSl, kSl2, kSl3, kC2, kP0, kP1, ev, evs, evParts, evO, Nat.reduceLT, Nat.reduceEqDiff, reduceIte, fr0, okConst, okc, appendA, cellsA, boxA, allocA, storeA, loadA, fieldA, indexA, fieldV, indexV, partA, extractA, nilA, binA, intBin, unA, lenA, isAggD, isConst, Nat.reduceAdd, Nat.reduceMul, Nat.reduceLeDiff, Nat.reduceSub, Nat.reduceBEq, splice, reduceCtorEq, Int.reduceEq, Int.reduceLT, Int.reduceLE, Int.reduceNeg, Int.reduceBEq, String.reduceEq, eqFlat, tf, aOpI, frL_cons]
  · have y3' : ¬ ((posO ps j L : Int) < (L.length : Int)) := by omega
    refine AWp.seq_draw tok mixed [(0, 3), (1, 1), (2, 1), (3, 1), (4, 1), (5, 3), (6, 0), (7, 3), (8, 3), (9, 3), (10, 0), (11, 3), (12, 3), (13, 0), (14, 3), (15, 0), (16, 1), (17, 1), (18, 1), (19, 1), (20, 1), (21, 1)] _ (by kernel_rfl) (Le.refl _) fun K hK => ?_
    simp -implicitDefEqProofs only [vcT, wantedA, kp, kp2, kpS, kr, k1, k2, kL, kLP, kFn, kFn2, kSl, kSl2, kSl3, kC2, kP0, kP1, ev, evs, evParts, evO, Nat.reduceLT, Nat.reduceEqDiff, reduceIte, fr0, okConst, okc, appendA, cellsA, boxA, allocA, storeA, loadA, fieldA, indexA, fieldV, indexV, partA, extractA, nilA, binA, intBin, unA, isAggD, isConst, Nat.reduceAdd, Nat.reduceMul, Nat.reduceLeDiff, Nat.reduceSub, Nat.reduceBEq, splice, reduceCtorEq, Int.reduceEq, Int.reduceLT, Int.reduceLE, Int.reduceNeg, Int.reduceBEq, String.reduceEq, eqFlat, tf, aOpI, frL_cons, ty3, hlg, y3']
    refine hK _ _ ?_
    clear hK
    refine AWp.condF (by simp -implicitDefEqProofs only [vcT, wantedA, kp, kp2, kpS, kr, k1, k2, kL, kLP, kFn, kFn2, kSl, kSl2, kSl3, kC2, kP0, kP1, ev, evs, evParts, evO, Nat.reduceLT, Nat.reduceEqDiff, reduceIte, fr0, okConst, okc, appendA, cellsA, boxA, allocA, storeA, loadA, fieldA, indexA, fieldV, indexV, partA, extractA, nilA, binA, intBin, unA, lenA, isAggD, isConst, Nat.reduceAdd, Nat.reduceMul, Nat.reduceLeDiff, Nat.reduceSub, Nat.reduceBEq, splice, reduceCtorEq, Int.reduceEq, Int.reduceLT, Int.reduceLE, Int.reduceNeg, Int.reduceBEq, String.reduceEq, eqFlat, tf, aOpI]) ?_
    refine AWp.exit ?_
    simp only [ThenA, BlockA, if_true]
    refine hend _ ?_ ?_ ?_ ?_ ?_
    all_goals simp -implicitDefEqProofs only [vcT, wantedA, kp, kp2, kpS, kr, k1, k2, kL, kLP, kFn, kFn2, kSl, kSl2, kSl3, kC2, kP0, kP1, ev, evs, evParts, evO, Nat.reduceLT, Nat.reduceEqDiff, reduceIte, fr0, okConst, okc, appendA, cellsA, boxA, allocA, storeA, loadA, fieldA, indexA, fieldV, indexV, partA, extractA, nilA, binA, intBin, unA, lenA, isAggD, isConst, Nat.reduceAdd, Nat.reduceMul, Nat.reduceLeDiff, Nat.reduceSub, Nat.reduceBEq, splice, reduceCtorEq, Int.reduceEq, Int.reduceLT, Int.reduceLE, Int.reduceNeg, Int.reduceBEq, String.reduceEq, eqFlat, tf, aOpI, frL_cons]
end Go.Proofs.Ytoikfhpbkpljlaa
