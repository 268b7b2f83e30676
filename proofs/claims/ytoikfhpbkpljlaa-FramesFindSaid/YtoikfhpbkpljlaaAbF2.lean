/- The sort of a node's parts, walked. -/
import Derived.Test.YtoikfhpbkpljlaaAbF1
namespace Go.Proofs.Ytoikfhpbkpljlaa
open Go.Ab
set_option linter.unusedSimpArgs false
set_option linter.unusedVariables false

structure Pt where
  node : Int
  start : Int
  len : Int
  f3 : Int
  f4 : Int
  k0 : Int
  k1 : Int
  k2 : Int
  k3 : Int
  deriving Inhabited
def Pt.cells (p : Pt) : List Value := [.int .i64 p.node, .int .i64 p.start, .int .i64 p.len, .int .i64 p.f3, .int .i64 p.f4, .int .u8 p.k0, .int .u8 p.k1, .int .u8 p.k2, .int .u8 p.k3]

/-- The parts of a configuration lie so. -/
structure PtAt (S : St) (c : Cf) (ps : List Pt) (o k s : Nat) (rw : Bool) (cs : List Value) : Prop where
  v : c.v8 = .slice (some ⟨o, k, none⟩) ps.length s
  at_ : SlAt 9 S (ps.map Pt.cells) o k 39 rw cs
  small : ps.length < 20

section
variable {S : St} {c : Cf} {ps : List Pt} {o k s : Nat} {rw : Bool} {cs : List Value}
theorem PtAt.cell (h : PtAt S c ps o k s rw cs) {j : Nat} {p : Pt} (hj : ps[j]? = some p) (i : Nat) (hi : i < 9) : cs[k + j * 9 + i]? = p.cells[i]? :=
  h.at_.get (by simp [hj]) hi
theorem PtAt.node (h : PtAt S c ps o k s rw cs) {j : Nat} {p : Pt} (hj : ps[j]? = some p) : cs[k + j * 9]? = some (.int .i64 p.node) := h.cell hj 0 (by omega)
theorem PtAt.start (h : PtAt S c ps o k s rw cs) {j : Nat} {p : Pt} (hj : ps[j]? = some p) : cs[k + j * 9 + 1]? = some (.int .i64 p.start) := h.cell hj 1 (by omega)
theorem PtAt.len (h : PtAt S c ps o k s rw cs) {j : Nat} {p : Pt} (hj : ps[j]? = some p) : cs[k + j * 9 + 2]? = some (.int .i64 p.len) := h.cell hj 2 (by omega)
theorem PtAt.lt (h : PtAt S c ps o k s rw cs) {j : Nat} {p : Pt} (hj : ps[j]? = some p) : 0 ≤ (j : Int) ∧ (j : Int) < (ps.length : Int) := by
  have := (List.getElem?_eq_some_iff.1 hj).1
  omega
theorem PtAt.fit (h : PtAt S c ps o k s rw cs) {j : Nat} {p : Pt} (hj : ps[j]? = some p) : k + j * 9 + 9 ≤ cs.length :=
  h.at_.fit (by omega) (by simp; exact (List.getElem?_eq_some_iff.1 hj).1)
theorem PtAt.take (h : PtAt S c ps o k s rw cs) {j : Nat} {p : Pt} (hj : ps[j]? = some p) : (cs.drop (k + j * 9)).take 9 = p.cells := h.at_.cell j _ (by simp [hj])
theorem PtAt.append (h : PtAt S c ps o k s rw cs) (R : St) : PtAt (S ++ R) c ps o k s rw cs := ⟨h.v, ⟨at_old h.at_.row R, h.at_.cell, h.at_.len⟩, h.small⟩
theorem PtAt.set (h : PtAt S c ps o k s rw cs) {j : Nat} (hj : j ≠ o) (x : AObj) : PtAt (S.set j x) c ps o k s rw cs := ⟨h.v, ⟨by rw [List.getElem?_set_ne hj]; exact h.at_.row, h.at_.cell, h.at_.len⟩, h.small⟩
end

theorem enter28 (cargs : Array Value) (w : World) : (callFunc 28 cargs).run Try.prog w = .ok (.enter 28 cargs) w := by kernel_rfl
theorem call28 {S : St} {c : Cf} {ps : List Pt} {o k s : Nat} {rw rb : Bool} {cs : List Value} (hp : PtAt S c ps o k s rw cs) {ob : Nat} (hb : S[ob]? = some (.row 26 rb c.cells)) {i j : Nat} {p q : Pt}
    (hi : ps[i]? = some p) (hj : ps[j]? = some q) : ACalls Try.prog 28 [.int .i64 i, .int .i64 j, .pointer (some ⟨ob, 0, none⟩)] S (fun r S' => S' = S ∧ r = .int .i64 (cmpI p.start q.start)) := by
  refine ACalls.ofP tok enter28 Try.func28 rfl (m := 19) rfl (by simp) (rs := [.tmp 5]) rfl fun hc ha => ?_
  have h1 := hp.lt hi
  have h2 := hp.lt hj
  have h3 := hp.start hi
  have h4 := hp.start hj
  have h5 := hp.v
  have h6 := hp.at_.row
  clear ha
  refine AWp.seq_region tok fun K hK => ?_
  simp -implicitDefEqProofs only [vcT, wantedA, kp, kp2, kpS, kr, k1, k2, kL, kLP, kFn, kFn2, kSl, kSl2, kSl3, kC2, kP0, kP1, ev, evs, evParts, evO, Nat.reduceLT, Nat.reduceEqDiff, reduceIte, fr0, okConst, okc, appendA, cellsA, boxA, allocA, storeA, loadA, fieldA, indexA, fieldV, indexV, partA, extractA, nilA, binA, intBin, unA, lenA, isAggD, isConst, Nat.reduceAdd, Nat.reduceMul, Nat.reduceLeDiff, Nat.reduceSub, Nat.reduceBEq, splice, reduceCtorEq, Int.reduceEq, Int.reduceLT, Int.reduceLE, Int.reduceNeg, Int.reduceBEq, String.reduceEq, eqFlat, tf, aOpI]
  refine hK _ _ ?_
  clear hK
  refine AWp.seq_draw tok mixed [(0, 3), (1, 0), (2, 3), (3, 3), (4, 3), (5, 0), (6, 3), (7, 0), (8, 1), (9, 1), (10, 1), (11, 1), (12, 1), (13, 2)] _ (by kernel_rfl) (Le.refl _) fun K hK => ?_
  refine aPlan_cut 12 fun K1 hK1 => ?_
  simp -implicitDefEqProofs only [vcT, wantedA, kp, kp2, kpS, kr, k1, k2, kL, kLP, kFn, kFn2, kSl, kSl2, kSl3, kC2, kP0, kP1, ev, evs, evParts, evO, Nat.reduceLT, Nat.reduceEqDiff, reduceIte, fr0, okConst, okc, appendA, cellsA, boxA, allocA, storeA, loadA, fieldA, indexA, fieldV, indexV, partA, extractA, nilA, binA, intBin, unA, lenA, isAggD, isConst, Nat.reduceAdd, Nat.reduceMul, Nat.reduceLeDiff, Nat.reduceSub, Nat.reduceBEq, splice, reduceCtorEq, Int.reduceEq, Int.reduceLT, Int.reduceLE, Int.reduceNeg, Int.reduceBEq, String.reduceEq, eqFlat, tf, aOpI, ty26, ty22, ty39, ty3, hb, Cf.cells, h5, h6, h1, h2, h3, h4, Int.toNat_natCast]
  refine hK1 _ _ ?_
  clear hK1
  refine aPlan_cut 1 fun K1 hK1 => ?_
  simp -implicitDefEqProofs only [vcT, wantedA, kp, kp2, kpS, kr, k1, k2, kL, kLP, kFn, kFn2, kSl, kSl2, kSl3, kC2, kP0, kP1, ev, evs, evParts, evO, Nat.reduceLT, Nat.reduceEqDiff, reduceIte, fr0, okConst, okc, appendA, cellsA, boxA, allocA, storeA, loadA, fieldA, indexA, fieldV, indexV, partA, extractA, nilA, binA, intBin, unA, lenA, isAggD, isConst, Nat.reduceAdd, Nat.reduceMul, Nat.reduceLeDiff, Nat.reduceSub, Nat.reduceBEq, splice, reduceCtorEq, Int.reduceEq, Int.reduceLT, Int.reduceLE, Int.reduceNeg, Int.reduceBEq, String.reduceEq, eqFlat, tf, aOpI, Array.toList_empty]
  refine (call29 p.start q.start _).mono ?_
  rintro r S' ⟨rfl, rfl⟩
  refine ⟨Le.refl _, hK1 _ _ ?_⟩
  simp -implicitDefEqProofs only [vcT, wantedA, kp, kp2, kpS, kr, k1, k2, kL, kLP, kFn, kFn2, kSl, kSl2, kSl3, kC2, kP0, kP1, ev, evs, evParts, evO, Nat.reduceLT, Nat.reduceEqDiff, reduceIte, fr0, okConst, okc, appendA, cellsA, boxA, allocA, storeA, loadA, fieldA, indexA, fieldV, indexV, partA, extractA, nilA, binA, intBin, unA, lenA, isAggD, isConst, Nat.reduceAdd, Nat.reduceMul, Nat.reduceLeDiff, Nat.reduceSub, Nat.reduceBEq, splice, reduceCtorEq, Int.reduceEq, Int.reduceLT, Int.reduceLE, Int.reduceNeg, Int.reduceBEq, String.reduceEq, eqFlat, tf, aOpI]
  refine hK _ _ ?_
  clear hK
  refine AWp.ret ?_
  simp -implicitDefEqProofs only [vcT, wantedA, kp, kp2, kpS, kr, k1, k2, kL, kLP, kFn, kFn2, kSl, kSl2, kSl3, kC2, kP0, kP1, ev, evs, evParts, evO, Nat.reduceLT, Nat.reduceEqDiff, reduceIte, fr0, okConst, okc, appendA, cellsA, boxA, allocA, storeA, loadA, fieldA, indexA, fieldV, indexV, partA, extractA, nilA, binA, intBin, unA, lenA, isAggD, isConst, Nat.reduceAdd, Nat.reduceMul, Nat.reduceLeDiff, Nat.reduceSub, Nat.reduceBEq, splice, reduceCtorEq, Int.reduceEq, Int.reduceLT, Int.reduceLE, Int.reduceNeg, Int.reduceBEq, String.reduceEq, eqFlat, tf, aOpI, ThenA, BlockA, EndA, ressA, resA, wrapA]
  first | exact ⟨⟨[], by simp⟩, .const _ rfl, rfl⟩ | exact ⟨⟨_, rfl⟩, .const _ rfl, rfl⟩ | exact ⟨⟨[], by simp⟩, .const _ rfl⟩ | exact ⟨⟨_, rfl⟩, .const _ rfl⟩ | exact ⟨.const _ rfl, rfl⟩ | exact .const _ rfl

/-! the sort itself -/
def ints (L : List Nat) : List Value := L.map (fun (x : Nat) => .int .i64 x)
theorem ints_get {L : List Nat} {i x : Nat} (h : L[i]? = some x) : (ints L)[i]? = some (.int .i64 x) := by simp [ints, h]
theorem ints_set (L : List Nat) (i x : Nat) : (ints L).set i (.int .i64 x) = ints (L.set i x) := by simp [ints, List.map_set]
theorem ints_len (L : List Nat) : (ints L).length = L.length := by simp [ints]
theorem ints_closed (n : Nat) (L : List Nat) : ∀ v ∈ ints L, Closed n v := fun v hv => by
  obtain ⟨x, _, rfl⟩ := List.mem_map.1 hv
  exact .const _ rfl

/-- While element j sinks: all but it are in order, and it is below all that it has passed. -/
def Sink (key : Nat → Int) (i j : Nat) (M : List Nat) : Prop :=
  (∀ p q, p < q → q ≤ i → p ≠ j → q ≠ j → key (M.getD p 0) ≤ key (M.getD q 0)) ∧ (∀ q, j < q → q ≤ i → key (M.getD j 0) ≤ key (M.getD q 0))
def Upto (key : Nat → Int) (i : Nat) (M : List Nat) : Prop := ∀ p q, p < q → q < i → key (M.getD p 0) ≤ key (M.getD q 0)

theorem Upto.sink {key : Nat → Int} {i : Nat} {M : List Nat} (h : Upto key i M) : Sink key i i M :=
  ⟨fun p q h1 h2 h3 h4 => h p q h1 (by omega), fun q h1 h2 => by omega⟩
theorem Sink.done {key : Nat → Int} {i j : Nat} {M : List Nat} (h : Sink key i j M) (hj : j ≤ i) (hk : j = 0 ∨ key (M.getD (j - 1) 0) ≤ key (M.getD j 0)) : Upto key (i + 1) M := by
  intro p q h1 h2
  by_cases hp : p = j
  · subst hp; exact h.2 q h1 (by omega)
  · by_cases hq : q = j
    · subst hq
      rcases hk with hk | hk
      · omega
      · by_cases hp2 : p = q - 1
        · subst hp2; exact hk
        · exact Int.le_trans (h.1 p (q - 1) (by omega) (by omega) (by omega) (by omega)) hk
    · exact h.1 p q h1 (by omega) hp hq
theorem getD_set (M : List Nat) (i x p : Nat) (hi : i < M.length) : (M.set i x).getD p 0 = if p = i then x else M.getD p 0 := by
  simp only [List.getD_eq_getElem?_getD, List.getElem?_set]
  by_cases h : p = i
  · subst h; simp [hi]
  · rw [if_neg h, if_neg (Ne.symm h)]
theorem Sink.step {key : Nat → Int} {i j : Nat} {M : List Nat} (h : Sink key i j M) (hj : j ≤ i) (h0 : 0 < j) (hi : i < M.length) (hk : key (M.getD j 0) < key (M.getD (j - 1) 0)) :
    Sink key i (j - 1) ((M.set j (M.getD (j - 1) 0)).set (j - 1) (M.getD j 0)) := by
  have g : ∀ p, ((M.set j (M.getD (j - 1) 0)).set (j - 1) (M.getD j 0)).getD p 0 = if p = j - 1 then M.getD j 0 else if p = j then M.getD (j - 1) 0 else M.getD p 0 := by
    intro p
    rw [getD_set _ _ _ _ (by rw [List.length_set]; omega), getD_set _ _ _ _ (by omega)]
  refine ⟨fun p q h1 h2 h3 h4 => ?_, fun q h1 h2 => ?_⟩
  · rw [g, g, if_neg h3, if_neg h4]
    by_cases hp : p = j
    · subst hp
      rw [if_pos rfl, if_neg (by omega)]
      exact h.1 (p - 1) q (by omega) h2 (by omega) (by omega)
    · rw [if_neg hp]
      by_cases hq : q = j
      · subst hq
        rw [if_pos rfl]
        exact h.1 p (q - 1) (by omega) (by omega) (by omega) (by omega)
      · rw [if_neg hq]
        exact h.1 p q h1 h2 hp hq
  · rw [g, g, if_pos rfl, if_neg (by omega)]
    by_cases hq : q = j
    · subst hq
      rw [if_pos rfl]
      exact Int.le_of_lt hk
    · rw [if_neg hq]
      exact h.2 q (by omega) h2
theorem swap_perm {M : List Nat} {i j : Nat} (hi : i < M.length) (hj : j < M.length) : ((M.set i (M.getD j 0)).set j (M.getD i 0)).Perm M := by
  have := List.set_set_perm hi hj
  simpa [List.getD_eq_getElem?_getD, hi, hj] using this

theorem cmpI_neg {a b : Int} : cmpI a b < 0 ↔ a < b := by
  unfold cmpI
  split
  · rename_i h; simp [h]
  · rename_i h
    split <;> simp [h]

def keyOf (ps : List Pt) (x : Nat) : Int := (ps.getD x default).start

theorem set_self {S : St} {o : Nat} {x : AObj} (h : S[o]? = some x) : S.set o x = S := by
  refine List.ext_getElem? fun i => ?_
  by_cases hi : i = o
  · subst hi
    rw [List.getElem?_set_self (List.getElem?_eq_some_iff.1 h).1, h]
  · rw [List.getElem?_set_ne (Ne.symm hi)]


theorem enter34 (cargs : Array Value) (w : World) : (callFunc 34 cargs).run Try.prog w = .ok (.enter 34 cargs) w := by kernel_rfl
theorem call34 {S : St} {c : Cf} {ps : List Pt} {o k s : Nat} {rw rb : Bool} {cs : List Value} (hp : PtAt S c ps o k s rw cs) {ob : Nat} (hb : S[ob]? = some (.row 26 rb c.cells))
    {od sd : Nat} {L : List Nat} (hd : S[od]? = some (.row 3 true (ints L))) (hL : ∀ x ∈ L, x < ps.length) (hsm : L.length < 20) :
    ACalls Try.prog 34 [.slice (some ⟨od, 0, none⟩) L.length sd, .int .i64 0, .int .i64 L.length, .func (.func 28) #[] #[.pointer (some ⟨ob, 0, none⟩)]] S
      (fun r S' => ∃ M : List Nat, M.Perm L ∧ Upto (keyOf ps) L.length M ∧ S' = S.set od (.row 3 true (ints M))) := by
  refine ACalls.of tok enter34 Try.func34 rfl (m := 53) rfl (by simp) (rs := []) rfl fun hc ha => ?_
  clear ha
  have hod : od < S.length := (List.getElem?_eq_some_iff.1 hd).1
  have ne1 : od ≠ ob := by rintro rfl; rw [hd] at hb; cases hb
  have ne2 : od ≠ o := by
    rintro rfl
    have := hp.at_.row
    rw [hd] at this
    cases this
  have w1 : IntKind.wrap .i64 (0 + 1) = 1 := by decide
  refine AWp.seq_region tok fun K hK => ?_
  simp -implicitDefEqProofs only [vcT, wantedA, kp, kp2, kpS, kr, k1, k2, kL, kLP, kFn, kFn2, kSl, kSl2, kSl3, kC2, kP0, kP1, ev, evs, evParts, evO, Nat.reduceLT, Nat.reduceEqDiff, reduceIte, fr0, okConst, okc, appendA, cellsA, boxA, allocA, storeA, loadA, fieldA, indexA, fieldV, indexV, partA, extractA, nilA, binA, intBin, unA, lenA, isAggD, isConst, Nat.reduceAdd, Nat.reduceMul, Nat.reduceLeDiff, Nat.reduceSub, Nat.reduceBEq, splice, reduceCtorEq, Int.reduceEq, Int.reduceLT, Int.reduceLE, Int.reduceNeg, Int.reduceBEq, String.reduceEq, eqFlat, tf, aOpI, w1]
  refine hK _ _ ?_
  clear hK
  refine AWp.block ?_
  refine AWp.loopW (fun k f S1 => ∃ (i : Nat) (M : List Nat), 1 ≤ i ∧ k + i = L.length + 1 ∧ M.Perm L ∧ Upto (keyOf ps) i M ∧
    f = frL [(0, .slice (some ⟨od, 0, none⟩) L.length sd), (1, .int .i64 0), (2, .int .i64 L.length), (3, .func (.func 28) #[] #[.pointer (some ⟨ob, 0, none⟩)]), (8, .int .i64 i)] ∧
    S1 = S.set od (.row 3 true (ints M))) L.length
    ⟨_, _, Wk.frame ?_, 1, L, Nat.le_refl _, rfl, List.Perm.refl _, fun p q h1 h2 => by omega, rfl, (set_self hd).symm⟩ ?_
  · simp only [List.forall_mem_cons, vcT, wantedA, kp, kp2, kpS, kr, k1, k2, kL, kLP, kFn, kFn2, kSl, kSl2, kSl3, kC2, kP0, kP1, ev, evs, evParts, evO, Nat.reduceLT, Nat.reduceEqDiff, reduceIte, fr0, okConst, okc, appendA, cellsA, boxA, allocA, storeA, loadA, fieldA, indexA, fieldV, indexV, partA, extractA, nilA, binA, intBin, unA, lenA, isAggD, isConst, Nat.reduceAdd, Nat.reduceMul, Nat.reduceLeDiff, Nat.reduceSub, Nat.reduceBEq, splice, reduceCtorEq, Int.reduceEq, Int.reduceLT, Int.reduceLE, Int.reduceNeg, Int.reduceBEq, String.reduceEq, eqFlat, tf, aOpI]
    simp
  rintro kk f S1 ⟨i, M, hi1, hki, hM, hU, rfl, rfl⟩
  have hMl : M.length = L.length := hM.length_eq
  refine AWp.seqK fun K hK => ?_
  refine AWp.seq_region tok fun K hK => ?_
  simp -implicitDefEqProofs only [vcT, wantedA, kp, kp2, kpS, kr, k1, k2, kL, kLP, kFn, kFn2, kSl, kSl2, kSl3, kC2, kP0, kP1, ev, evs, evParts, evO, Nat.reduceLT, Nat.reduceEqDiff, reduceIte, fr0, okConst, okc, appendA, cellsA, boxA, allocA, storeA, loadA, fieldA, indexA, fieldV, indexV, partA, extractA, nilA, binA, intBin, unA, lenA, isAggD, isConst, Nat.reduceAdd, Nat.reduceMul, Nat.reduceLeDiff, Nat.reduceSub, Nat.reduceBEq, splice, reduceCtorEq, Int.reduceEq, Int.reduceLT, Int.reduceLE, Int.reduceNeg, Int.reduceBEq, String.reduceEq, eqFlat, tf, aOpI, frL_cons]
  refine hK _ _ ?_
  clear hK
  refine AWp.condP ((i : Int) < (L.length : Int)) (by simp only [vcT, wantedA, kp, kp2, kpS, kr, k1, k2, kL, kLP, kFn, kFn2, kSl, kSl2, kSl3, kC2, kP0, kP1, ev, evs, evParts, evO, Nat.reduceLT, Nat.reduceEqDiff, reduceIte, fr0, okConst, okc, appendA, cellsA, boxA, allocA, storeA, loadA, fieldA, indexA, fieldV, indexV, partA, extractA, nilA, binA, intBin, unA, lenA, isAggD, isConst, Nat.reduceAdd, Nat.reduceMul, Nat.reduceLeDiff, Nat.reduceSub, Nat.reduceBEq, splice, reduceCtorEq, Int.reduceEq, Int.reduceLT, Int.reduceLE, Int.reduceNeg, Int.reduceBEq, String.reduceEq, eqFlat, tf, aOpI]) (fun h => ?_) (fun h => ?_)
  rotate_left
  · refine AWp.exit ?_
    simp only [vcT, wantedA, kp, kp2, kpS, kr, k1, k2, kL, kLP, kFn, kFn2, kSl, kSl2, kSl3, kC2, kP0, kP1, ev, evs, evParts, evO, Nat.reduceLT, Nat.reduceEqDiff, reduceIte, fr0, okConst, okc, appendA, cellsA, boxA, allocA, storeA, loadA, fieldA, indexA, fieldV, indexV, partA, extractA, nilA, binA, intBin, unA, lenA, isAggD, isConst, Nat.reduceAdd, Nat.reduceMul, Nat.reduceLeDiff, Nat.reduceSub, Nat.reduceBEq, splice, reduceCtorEq, Int.reduceEq, Int.reduceLT, Int.reduceLE, Int.reduceNeg, Int.reduceBEq, String.reduceEq, eqFlat, tf, aOpI, ThenA, BlockA, EndA, ressA]
    exact ⟨M, hM, fun p q h1 h2 => hU p q h1 (by omega), rfl⟩
  refine AWp.skip ?_
  refine hK _ _ ?_
  clear hK
  refine AWp.seqK fun K hK => ?_
  refine AWp.block ?_
  refine AWp.seq_region tok fun K hK => ?_
  simp -implicitDefEqProofs only [vcT, wantedA, kp, kp2, kpS, kr, k1, k2, kL, kLP, kFn, kFn2, kSl, kSl2, kSl3, kC2, kP0, kP1, ev, evs, evParts, evO, Nat.reduceLT, Nat.reduceEqDiff, reduceIte, fr0, okConst, okc, appendA, cellsA, boxA, allocA, storeA, loadA, fieldA, indexA, fieldV, indexV, partA, extractA, nilA, binA, intBin, unA, lenA, isAggD, isConst, Nat.reduceAdd, Nat.reduceMul, Nat.reduceLeDiff, Nat.reduceSub, Nat.reduceBEq, splice, reduceCtorEq, Int.reduceEq, Int.reduceLT, Int.reduceLE, Int.reduceNeg, Int.reduceBEq, String.reduceEq, eqFlat, tf, aOpI, frL_cons]
  refine hK _ _ ?_
  clear hK
  have w2 : IntKind.wrap .i64 ((i : Int) + 1) = ((i + 1 : Nat) : Int) := by rw [IntKind.wrap_i64]; omega
  refine AWp.block ?_
  refine AWp.loopW (fun k f S1 => ∃ (M : List Nat), k ≤ i ∧ M.Perm L ∧ Sink (keyOf ps) i k M ∧
    f = frL [(0, .slice (some ⟨od, 0, none⟩) L.length sd), (1, .int .i64 0), (2, .int .i64 L.length), (3, .func (.func 28) #[] #[.pointer (some ⟨ob, 0, none⟩)]), (8, .int .i64 i), (9, .int .i64 k)] ∧
    S1 = S.set od (.row 3 true (ints M))) i
    ⟨_, _, Wk.frame ?_, M, Nat.le_refl _, hM, hU.sink, rfl, rfl⟩ ?_
  · simp only [List.forall_mem_cons, vcT, wantedA, kp, kp2, kpS, kr, k1, k2, kL, kLP, kFn, kFn2, kSl, kSl2, kSl3, kC2, kP0, kP1, ev, evs, evParts, evO, Nat.reduceLT, Nat.reduceEqDiff, reduceIte, fr0, okConst, okc, appendA, cellsA, boxA, allocA, storeA, loadA, fieldA, indexA, fieldV, indexV, partA, extractA, nilA, binA, intBin, unA, lenA, isAggD, isConst, Nat.reduceAdd, Nat.reduceMul, Nat.reduceLeDiff, Nat.reduceSub, Nat.reduceBEq, splice, reduceCtorEq, Int.reduceEq, Int.reduceLT, Int.reduceLE, Int.reduceNeg, Int.reduceBEq, String.reduceEq, eqFlat, tf, aOpI, frL_cons]
    simp
  clear hU hMl hM M
  rintro j f S1 ⟨M, hji, hM, hU, rfl, rfl⟩
  have hMl : M.length = L.length := hM.length_eq
  have hrow : (S.set od (.row 3 true (ints M)))[od]? = some (.row 3 true (ints M)) := by rw [List.getElem?_set_self hod]
  refine AWp.seqK fun K2 hK2 => ?_
  have e0 : decide ((0 : Int) > 0) = false := by decide
  by_cases hj : 0 < j
  · obtain ⟨a, ha⟩ : ∃ a, M[j]? = some a := ⟨_, List.getElem?_eq_getElem (by omega)⟩
    obtain ⟨b, hb1⟩ : ∃ b, M[j - 1]? = some b := ⟨_, List.getElem?_eq_getElem (by omega)⟩
    have hal : a < ps.length := hL a (hM.mem_iff.1 (List.mem_of_getElem? ha))
    have hbl : b < ps.length := hL b (hM.mem_iff.1 (List.mem_of_getElem? hb1))
    obtain ⟨pa, hpa⟩ : ∃ p, ps[a]? = some p := ⟨_, List.getElem?_eq_getElem hal⟩
    obtain ⟨pb, hpb⟩ : ∃ p, ps[b]? = some p := ⟨_, List.getElem?_eq_getElem hbl⟩
    have e1 : IntKind.wrap .i64 ((j : Int) - 1) = ((j - 1 : Nat) : Int) := by rw [IntKind.wrap_i64]; omega
    have e2 : decide ((j : Int) > 0) = true := by simp; omega
    have b1 : 0 ≤ (j : Int) ∧ (j : Int) < (L.length : Int) := by omega
    have b2 : 0 ≤ ((j - 1 : Nat) : Int) ∧ ((j - 1 : Nat) : Int) < (L.length : Int) := by omega
    have g1 := ints_get ha
    have g2 := ints_get hb1
    refine AWp.seq_draw tok mixed [(0, 3), (1, 1), (2, 1), (3, 1), (4, 3), (5, 3), (6, 3), (7, 3), (8, 0), (9, 3), (10, 1), (11, 1), (12, 1), (13, 1), (14, 1), (15, 1), (16, 1)] _ (by kernel_rfl) (Le.refl _) fun K hK => ?_
    refine aPlan_cut 14 fun K1 hK1 => ?_
    simp -implicitDefEqProofs only [vcT, wantedA, kp, kp2, kpS, kr, k1, k2, kL, kLP, kFn, kFn2, kSl, kSl2, kSl3, kC2, kP0, kP1, ev, evs, evParts, evO, Nat.reduceLT, Nat.reduceEqDiff, reduceIte, fr0, okConst, okc, appendA, cellsA, boxA, allocA, storeA, loadA, fieldA, indexA, fieldV, indexV, partA, extractA, nilA, binA, intBin, unA, lenA, isAggD, isConst, Nat.reduceAdd, Nat.reduceMul, Nat.reduceLeDiff, Nat.reduceSub, Nat.reduceBEq, splice, reduceCtorEq, Int.reduceEq, Int.reduceLT, Int.reduceLE, Int.reduceNeg, Int.reduceBEq, String.reduceEq, eqFlat, tf, aOpI, frL_cons, ty34, ty3, e1, e2, b1, b2, g1, g2, hrow, Int.toNat_natCast, Nat.mul_one]
    refine hK1 _ _ ?_
    clear hK1
    refine aPlan_cut 1 fun K1 hK1 => ?_
    simp -implicitDefEqProofs only [vcT, wantedA, kp, kp2, kpS, kr, k1, k2, kL, kLP, kFn, kFn2, kSl, kSl2, kSl3, kC2, kP0, kP1, ev, evs, evParts, evO, Nat.reduceLT, Nat.reduceEqDiff, reduceIte, fr0, okConst, okc, appendA, cellsA, boxA, allocA, storeA, loadA, fieldA, indexA, fieldV, indexV, partA, extractA, nilA, binA, intBin, unA, lenA, isAggD, isConst, Nat.reduceAdd, Nat.reduceMul, Nat.reduceLeDiff, Nat.reduceSub, Nat.reduceBEq, splice, reduceCtorEq, Int.reduceEq, Int.reduceLT, Int.reduceLE, Int.reduceNeg, Int.reduceBEq, String.reduceEq, eqFlat, tf, aOpI, Array.toList_empty, frL_cons, List.drop_succ_cons, List.drop_zero]
    have hself : ∀ x, (S.set od x)[od]? = some x := fun x => List.getElem?_set_self hod
    refine (call28 (hp.set ne2 _) (by rw [List.getElem?_set_ne ne1]; exact hb) hpa hpb).mono ?_
    rintro r S' ⟨rfl, rfl⟩
    refine ⟨Le.refl _, hK1 _ _ ?_⟩
    clear hK1
    simp -implicitDefEqProofs only [vcT, wantedA, kp, kp2, kpS, kr, k1, k2, kL, kLP, kFn, kFn2, kSl, kSl2, kSl3, kC2, kP0, kP1, ev, evs, evParts, evO, Nat.reduceLT, Nat.reduceEqDiff, reduceIte, fr0, okConst, okc, appendA, cellsA, boxA, allocA, storeA, loadA, fieldA, indexA, fieldV, indexV, partA, extractA, nilA, binA, intBin, unA, lenA, isAggD, isConst, Nat.reduceAdd, Nat.reduceMul, Nat.reduceLeDiff, Nat.reduceSub, Nat.reduceBEq, splice, reduceCtorEq, Int.reduceEq, Int.reduceLT, Int.reduceLE, Int.reduceNeg, Int.reduceBEq, String.reduceEq, eqFlat, tf, aOpI, frL_cons]
    refine hK _ _ ?_
    clear hK
    refine AWp.condP (cmpI pa.start pb.start < 0) (by simp only [vcT, wantedA, kp, kp2, kpS, kr, k1, k2, kL, kLP, kFn, kFn2, kSl, kSl2, kSl3, kC2, kP0, kP1, ev, evs, evParts, evO, Nat.reduceLT, Nat.reduceEqDiff, reduceIte, fr0, okConst, okc, appendA, cellsA, boxA, allocA, storeA, loadA, fieldA, indexA, fieldV, indexV, partA, extractA, nilA, binA, intBin, unA, lenA, isAggD, isConst, Nat.reduceAdd, Nat.reduceMul, Nat.reduceLeDiff, Nat.reduceSub, Nat.reduceBEq, splice, reduceCtorEq, Int.reduceEq, Int.reduceLT, Int.reduceLE, Int.reduceNeg, Int.reduceBEq, String.reduceEq, eqFlat, tf, aOpI]) (fun h2 => ?_) (fun h2 => ?_)
    rotate_left
    · refine AWp.exit ?_
      simp only [ThenA, BlockA, if_true]
      refine hK _ _ ?_
      clear hK
      have hdone : Upto (keyOf ps) (i + 1) M := hU.done hji (.inr (by
        have h3 : ¬ pa.start < pb.start := fun h3 => h2 (cmpI_neg.2 h3)
        simp only [keyOf, List.getD_eq_getElem?_getD, ha, hb1, hpa, hpb, Option.getD_some]
        omega))
      refine AWp.regionK tok fun K hK => ?_
      simp -implicitDefEqProofs only [vcT, wantedA, kp, kp2, kpS, kr, k1, k2, kL, kLP, kFn, kFn2, kSl, kSl2, kSl3, kC2, kP0, kP1, ev, evs, evParts, evO, Nat.reduceLT, Nat.reduceEqDiff, reduceIte, fr0, okConst, okc, appendA, cellsA, boxA, allocA, storeA, loadA, fieldA, indexA, fieldV, indexV, partA, extractA, nilA, binA, intBin, unA, lenA, isAggD, isConst, Nat.reduceAdd, Nat.reduceMul, Nat.reduceLeDiff, Nat.reduceSub, Nat.reduceBEq, splice, reduceCtorEq, Int.reduceEq, Int.reduceLT, Int.reduceLE, Int.reduceNeg, Int.reduceBEq, String.reduceEq, eqFlat, tf, aOpI, frL_cons, w2]
      refine hK _ _ ?_
      exact ⟨kk - 1, _, _, by omega, Wk.frame (by simp only [List.forall_mem_cons, vcT, wantedA, kp, kp2, kpS, kr, k1, k2, kL, kLP, kFn, kFn2, kSl, kSl2, kSl3, kC2, kP0, kP1, ev, evs, evParts, evO, Nat.reduceLT, Nat.reduceEqDiff, reduceIte, fr0, okConst, okc, appendA, cellsA, boxA, allocA, storeA, loadA, fieldA, indexA, fieldV, indexV, partA, extractA, nilA, binA, intBin, unA, lenA, isAggD, isConst, Nat.reduceAdd, Nat.reduceMul, Nat.reduceLeDiff, Nat.reduceSub, Nat.reduceBEq, splice, reduceCtorEq, Int.reduceEq, Int.reduceLT, Int.reduceLE, Int.reduceNeg, Int.reduceBEq, String.reduceEq, eqFlat, tf, aOpI, frL_cons]; simp), i + 1, M, by omega, by omega, hM, hdone, rfl, rfl⟩
    refine AWp.skip ?_
    refine hK2 _ _ ?_
    clear hK2
    have hle1 : j + 1 ≤ L.length := by omega
    have hle2 : j - 1 + 1 ≤ L.length := by omega
    refine AWp.seqK fun K3 hK3 => ?_
    refine AWp.block ?_
    refine AWp.drawK tok mixed [(0, 3), (1, 3), (2, 3), (3, 3), (4, 3), (5, 3), (6, 3), (7, 3), (8, 3), (9, 0), (10, 3), (11, 1), (12, 1), (13, 1), (14, 2), (15, 2), (16, 2), (17, 2)] _ (by kernel_rfl) (Le.refl _) fun K hK => ?_
    simp -implicitDefEqProofs only [vcT, wantedA, kp, kp2, kpS, kr, k1, k2, kL, kLP, kFn, kFn2, kSl, kSl2, kSl3, kC2, kP0, kP1, ev, evs, evParts, evO, Nat.reduceLT, Nat.reduceEqDiff, reduceIte, fr0, okConst, okc, appendA, cellsA, boxA, allocA, storeA, loadA, fieldA, indexA, fieldV, indexV, partA, extractA, nilA, binA, intBin, unA, lenA, isAggD, isConst, Nat.reduceAdd, Nat.reduceMul, Nat.reduceLeDiff, Nat.reduceSub, Nat.reduceBEq, splice, reduceCtorEq, Int.reduceEq, Int.reduceLT, Int.reduceLE, Int.reduceNeg, Int.reduceBEq, String.reduceEq, eqFlat, tf, aOpI, frL_cons, ty34, ty3, e1, b1, b2, g1, g2, hself, Int.toNat_natCast, Nat.mul_one, ints_len, ints_set, hMl, hle1, hle2, List.set_set, List.length_set]
    refine hK _ _ ?_
    clear hK
    refine hK3 _ _ ?_
    clear hK3
    have hk : keyOf ps (M.getD j 0) < keyOf ps (M.getD (j - 1) 0) := by
      have h3 := cmpI_neg.1 h2
      simp only [keyOf, List.getD_eq_getElem?_getD, ha, hb1, hpa, hpb, Option.getD_some]
      exact h3
    have hst := hU.step hji hj (by omega) hk
    have hpm := (swap_perm (i := j) (j := j - 1) (M := M) (by omega) (by omega)).trans hM
    have ea : M.getD j 0 = a := by simp [List.getD_eq_getElem?_getD, ha]
    have eb : M.getD (j - 1) 0 = b := by simp [List.getD_eq_getElem?_getD, hb1]
    rw [ea, eb] at hst hpm
    refine AWp.regionK tok fun K hK => ?_
    simp -implicitDefEqProofs only [vcT, wantedA, kp, kp2, kpS, kr, k1, k2, kL, kLP, kFn, kFn2, kSl, kSl2, kSl3, kC2, kP0, kP1, ev, evs, evParts, evO, Nat.reduceLT, Nat.reduceEqDiff, reduceIte, fr0, okConst, okc, appendA, cellsA, boxA, allocA, storeA, loadA, fieldA, indexA, fieldV, indexV, partA, extractA, nilA, binA, intBin, unA, lenA, isAggD, isConst, Nat.reduceAdd, Nat.reduceMul, Nat.reduceLeDiff, Nat.reduceSub, Nat.reduceBEq, splice, reduceCtorEq, Int.reduceEq, Int.reduceLT, Int.reduceLE, Int.reduceNeg, Int.reduceBEq, String.reduceEq, eqFlat, tf, aOpI, frL_cons, e1]
    refine hK _ _ ?_
    exact ⟨j - 1, _, _, by omega, Wk.frame (by simp only [List.forall_mem_cons, vcT, wantedA, kp, kp2, kpS, kr, k1, k2, kL, kLP, kFn, kFn2, kSl, kSl2, kSl3, kC2, kP0, kP1, ev, evs, evParts, evO, Nat.reduceLT, Nat.reduceEqDiff, reduceIte, fr0, okConst, okc, appendA, cellsA, boxA, allocA, storeA, loadA, fieldA, indexA, fieldV, indexV, partA, extractA, nilA, binA, intBin, unA, lenA, isAggD, isConst, Nat.reduceAdd, Nat.reduceMul, Nat.reduceLeDiff, Nat.reduceSub, Nat.reduceBEq, splice, reduceCtorEq, Int.reduceEq, Int.reduceLT, Int.reduceLE, Int.reduceNeg, Int.reduceBEq, String.reduceEq, eqFlat, tf, aOpI, frL_cons]; simp), _, by omega, hpm, hst, rfl, rfl⟩
  · obtain rfl : j = 0 := by omega
    refine AWp.seq_draw tok mixed [(0, 3), (1, 1), (2, 1), (3, 1), (4, 3), (5, 3), (6, 3), (7, 3), (8, 0), (9, 3), (10, 1), (11, 1), (12, 1), (13, 1), (14, 1), (15, 1), (16, 1)] _ (by kernel_rfl) (Le.refl _) fun K hK => ?_
    simp -implicitDefEqProofs only [vcT, wantedA, kp, kp2, kpS, kr, k1, k2, kL, kLP, kFn, kFn2, kSl, kSl2, kSl3, kC2, kP0, kP1, ev, evs, evParts, evO, Nat.reduceLT, Nat.reduceEqDiff, reduceIte, fr0, okConst, okc, appendA, cellsA, boxA, allocA, storeA, loadA, fieldA, indexA, fieldV, indexV, partA, extractA, nilA, binA, intBin, unA, lenA, isAggD, isConst, Nat.reduceAdd, Nat.reduceMul, Nat.reduceLeDiff, Nat.reduceSub, Nat.reduceBEq, splice, reduceCtorEq, Int.reduceEq, Int.reduceLT, Int.reduceLE, Int.reduceNeg, Int.reduceBEq, String.reduceEq, eqFlat, tf, aOpI, frL_cons, List.drop_succ_cons, List.drop_zero, Int.natCast_zero, e0]
    refine hK _ _ ?_
    clear hK
    refine AWp.condF (by simp only [vcT, wantedA, kp, kp2, kpS, kr, k1, k2, kL, kLP, kFn, kFn2, kSl, kSl2, kSl3, kC2, kP0, kP1, ev, evs, evParts, evO, Nat.reduceLT, Nat.reduceEqDiff, reduceIte, fr0, okConst, okc, appendA, cellsA, boxA, allocA, storeA, loadA, fieldA, indexA, fieldV, indexV, partA, extractA, nilA, binA, intBin, unA, lenA, isAggD, isConst, Nat.reduceAdd, Nat.reduceMul, Nat.reduceLeDiff, Nat.reduceSub, Nat.reduceBEq, splice, reduceCtorEq, Int.reduceEq, Int.reduceLT, Int.reduceLE, Int.reduceNeg, Int.reduceBEq, String.reduceEq, eqFlat, tf, aOpI]) ?_
    refine AWp.exit ?_
    simp only [ThenA, BlockA, if_true]
    refine hK _ _ ?_
    clear hK
    have hdone : Upto (keyOf ps) (i + 1) M := hU.done hji (.inl rfl)
    refine AWp.regionK tok fun K hK => ?_
    simp -implicitDefEqProofs only [vcT, wantedA, kp, kp2, kpS, kr, k1, k2, kL, kLP, kFn, kFn2, kSl, kSl2, kSl3, kC2, kP0, kP1, ev, evs, evParts, evO, Nat.reduceLT, Nat.reduceEqDiff, reduceIte, fr0, okConst, okc, appendA, cellsA, boxA, allocA, storeA, loadA, fieldA, indexA, fieldV, indexV, partA, extractA, nilA, binA, intBin, unA, lenA, isAggD, isConst, Nat.reduceAdd, Nat.reduceMul, Nat.reduceLeDiff, Nat.reduceSub, Nat.reduceBEq, splice, reduceCtorEq, Int.reduceEq, Int.reduceLT, Int.reduceLE, Int.reduceNeg, Int.reduceBEq, String.reduceEq, eqFlat, tf, aOpI, frL_cons, w2]
    refine hK _ _ ?_
    exact ⟨kk - 1, _, _, by omega, Wk.frame (by simp only [List.forall_mem_cons, vcT, wantedA, kp, kp2, kpS, kr, k1, k2, kL, kLP, kFn, kFn2, kSl, kSl2, kSl3, kC2, kP0, kP1, ev, evs, evParts, evO, Nat.reduceLT, Nat.reduceEqDiff, reduceIte, fr0, okConst, okc, appendA, cellsA, boxA, allocA, storeA, loadA, fieldA, indexA, fieldV, indexV, partA, extractA, nilA, binA, intBin, unA, lenA, isAggD, isConst, Nat.reduceAdd, Nat.reduceMul, Nat.reduceLeDiff, Nat.reduceSub, Nat.reduceBEq, splice, reduceCtorEq, Int.reduceEq, Int.reduceLT, Int.reduceLE, Int.reduceNeg, Int.reduceBEq, String.reduceEq, eqFlat, tf, aOpI, frL_cons]; simp), i + 1, M, by omega, by omega, hM, hdone, rfl, rfl⟩
end Go.Proofs.Ytoikfhpbkpljlaa
