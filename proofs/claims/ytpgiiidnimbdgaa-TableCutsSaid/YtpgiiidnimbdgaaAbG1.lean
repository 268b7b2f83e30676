/- The writer of bytes, walked. -/
import Derived.Test.YtpgiiidnimbdgaaAbF28
namespace Go.Proofs.Ytpgiiidnimbdgaa
open Go.Ab
set_option linter.unusedSimpArgs false
set_option linter.unusedVariables false
set_option maxRecDepth 4000

/-- A number's bytes, the highest first. -/
def beN : Nat → Nat → List Nat
  | 0, _ => []
  | k + 1, v => v / 256 ^ k % 256 :: beN k v
theorem beN_len : ∀ (k v : Nat), (beN k v).length = k
  | 0, _ => rfl
  | k + 1, v => by simp [beN, beN_len k v]
theorem beN_by : ∀ (k v : Nat), IsBy (beN k v)
  | 0, _ => fun x hx => by simp [beN] at hx
  | k + 1, v => fun x hx => by
    simp only [beN, List.mem_cons] at hx
    rcases hx with rfl | hx
    · omega
    · exact beN_by k v x hx

/-- A slice of bytes of one's own, or nil. -/
def GrB (S : St) (n : Nat) (v : Value) (l : List Nat) : Prop := (v = .slice none 0 0 ∧ l = []) ∨ OwB S n v l
theorem GrB.slB {S : St} {n : Nat} {v : Value} {l : List Nat} (h : GrB S n v l) : SlB S v l := by
  rcases h with h | h
  · exact ⟨.inl h⟩
  · exact h.slB
/-- What a writer leaves: the first n objects, and all that are no bytes, but for its own. -/
def ModW (n o : Nat) (S S' : St) : Prop := S.length ≤ S'.length ∧ (∀ j, j < n → S'[j]? = S[j]?) ∧ ∀ j ty rw cs, S[j]? = some (.row ty rw cs) → ty ≠ 5 → j ≠ o → S'[j]? = S[j]?
theorem ModW.refl (n o : Nat) (S : St) : ModW n o S S := ⟨Nat.le_refl _, fun _ _ => rfl, fun _ _ _ _ _ _ _ => rfl⟩
theorem ModW.trans {n o : Nat} {S S' S'' : St} (h : ModW n o S S') (h' : ModW n o S' S'') : ModW n o S S'' :=
  ⟨Nat.le_trans h.1 h'.1, fun j hj => (h'.2.1 j hj).trans (h.2.1 j hj), fun j ty rw cs hj h1 h2 => by
    have e := h.2.2 j ty rw cs hj h1 h2
    rw [← e]
    exact h'.2.2 j ty rw cs (e.trans hj) h1 h2⟩
theorem ModW.get {n o : Nat} {S S' : St} (h : ModW n o S S') {j : Nat} {ty : TypeId} {rw : Bool} {cs : List Value} (hj : S[j]? = some (.row ty rw cs)) (h1 : ty ≠ 5) (h2 : j ≠ o) : S'[j]? = some (.row ty rw cs) :=
  (h.2.2 j ty rw cs hj h1 h2).trans hj
theorem ModW.keeps {S0 S S' : St} {n o : Nat} (h : ModW n o S S') (hk : Keeps S0 S) (hn : S0.length ≤ n) : Keeps S0 S' :=
  ⟨Nat.le_trans hk.1 h.1, fun j hj => (h.2.1 j (by omega)).trans (hk.2 j hj)⟩

theorem GrB.app {S : St} {n : Nat} {v x : Value} {l m : List Nat} (h : GrB S n v l) (hx : cellsA S 1 x = some (m.length, bys m)) (hb : l.length + m.length ≤ 140737488355328) (hn : n ≤ S.length) :
    ∃ u S2, appendA TT S 22 v x = some (u, S2) ∧ GrB S2 n u (l ++ m) ∧ (∀ o, ModW n o S S2) ∧ n ≤ S2.length := by
  rcases h with ⟨rfl, rfl⟩ | ⟨ob, h1, rfl, h2⟩
  · have h3 : m.length * 1 ≤ 140737488355328 := by simp at hb; omega
    have h4 : m.length ≤ 9223372036854775807 := by omega
    rcases m with _ | ⟨y, m⟩
    · refine ⟨.slice none 0 0, S, ?_, .inl ⟨rfl, rfl⟩, fun o => ModW.refl _ _ _, hn⟩
      simp only [appendA, ty22, ty5, hx]
      simp [bys, Value.cells]
    · refine ⟨.slice (some ⟨S.length, 0, none⟩) (y :: m).length 1, S ++ [.row 5 true (bys (y :: m))], ?_, .inr ⟨S.length, hn, by simp, by simp⟩, fun o => ⟨by simp, fun j hj => List.getElem?_append_left (by omega), fun j ty rw cs hj _ _ => List.getElem?_append_left (List.getElem?_eq_some_iff.1 hj).1⟩, by simp; omega⟩
      simp only [appendA, ty22, ty5, hx, h3, h4]
      simp [Value.cells]
  · refine ⟨_, _, app_own h2 hx hb, .inr ⟨S.length, hn, rfl, set_snoc_get⟩, fun o => ⟨by simp, fun j hj => ?_, fun j ty rw cs hj hty _ => ?_⟩, by simp; omega⟩
    · rw [List.getElem?_append_left (by simp; omega), List.getElem?_set_ne (by omega)]
    · rw [set_snoc_old hj (fun e => ?_), hj]
      subst e
      rw [h2] at hj
      cases hj
      exact hty rfl

/-- A writer lies so. -/
structure WrAt (S : St) (n o : Nat) (l : List Nat) : Prop where
  row : ∃ v, S[o]? = some (.row 99 true [v]) ∧ GrB S n v l
  lo : n ≤ o
  len : l.length ≤ 100000
theorem GrB.modW {S S' : St} {n o n' : Nat} {v : Value} {l : List Nat} (h : GrB S n v l) (h1 : n ≤ n') (h2 : ∀ ob, n ≤ ob → ∀ cs, S[ob]? = some (.row 5 true cs) → S'[ob]? = S[ob]?) : GrB S' n v l := by
  rcases h with h | ⟨ob, g1, g2, g3⟩
  · exact .inl h
  · exact .inr ⟨ob, g1, g2, by rw [h2 ob g1 _ g3]; exact g3⟩
/-- A byte more. -/
theorem WrAt.step {S : St} {n o : Nat} {l : List Nat} (h : WrAt S n o l) {x : Nat} (hl : l.length + 1 ≤ 100000) : ∃ v u S2, S[o]? = some (.row 99 true [v]) ∧ appendA TT (S ++ [.row 5 true [.int .u8 (x : Int)]]) 22 v (.slice (some ⟨S.length, 0, none⟩) 1 1) = some (u, S2) ∧ S2[o]? = some (.row 99 true [v]) ∧
    WrAt (S2.set o (.row 99 true [u])) n o (l ++ [x]) ∧ ModW n o S (S2.set o (.row 99 true [u])) ∧ solid u = true ∧ u.cells = #[u] := by
  obtain ⟨v, h1, h2⟩ := h.row
  have hlo := h.lo
  have hol := (List.getElem?_eq_some_iff.1 h1).1
  have h2' : GrB (S ++ [.row 5 true [.int .u8 (x : Int)]]) n v l := by
    rcases h2 with h | h
    · exact .inl h
    · exact .inr (h.keeps (Keeps.append _ _))
  obtain ⟨u, S2, a1, a2, a3, a4⟩ := h2'.app (x := .slice (some ⟨S.length, 0, none⟩) 1 1) (m := [x]) (by simp [cellsA, bys]) (by simp; omega) (by simp; omega)
  have h3 : S2[o]? = some (.row 99 true [v]) := (a3 (o + 1)).get (at_old h1 _) (by decide) (by omega)
  have hol2 := (List.getElem?_eq_some_iff.1 h3).1
  refine ⟨v, u, S2, h1, a1, h3, ⟨⟨u, List.getElem?_set_self hol2, ?_⟩, hlo, by simpa using hl⟩, ?_, a2.slB.one.1, a2.slB.one.2⟩
  · refine a2.modW (o := o) (n' := n) (Nat.le_refl _) fun ob _ cs hc => List.getElem?_set_ne (fun e => ?_)
    subst e
    rw [h3] at hc
    cases hc
  · refine ⟨by have := (a3 o).1; simp at this ⊢; omega, fun j hj => ?_, fun j ty rw cs hj hty hne => ?_⟩
    · rw [List.getElem?_set_ne (by omega), (a3 o).2.1 j hj, List.getElem?_append_left (by omega)]
    · rw [List.getElem?_set_ne (Ne.symm hne), (a3 o).2.2 j ty rw cs (at_old hj _) hty hne, at_old hj _, hj]

theorem enter47 (cargs : Array Value) (w : World) : (callFunc 47 cargs).run Try.prog w = .ok (.enter 47 cargs) w := by kernel_rfl
set_option maxHeartbeats 1000000 in
theorem call47 {S : St} {n o : Nat} {l : List Nat} (h : WrAt S n o l) (v : Nat) (hv : v < 4294967296) (k : Nat) (hk : k = 1 ∨ k = 2 ∨ k = 4) (hl : l.length + k ≤ 100000) :
    ACalls Try.prog 47 [.pointer (some ⟨o, 0, none⟩), .int .u32 (v : Int), .int .i64 (k : Int)] S (fun _ S' => ModW n o S S' ∧ WrAt S' n o (l ++ beN k v)) := by
  refine ACalls.of tok enter47 Try.func47 rfl (m := 64) rfl (by simp) (rs := []) rfl fun hc ha => ?_
  clear ha
  refine AWp.seqK fun K0 hK0 => ?_
  refine AWp.seq_region tok fun K hK => ?_
  simp -implicitDefEqProofs only [vcT, wantedA, kp, kp2, kpS, kr, k1, k2, kL, kLP, kFn, kFn2, kSl, kSl2, kSl3, kC2, kP0, kP1, ev, evs, evParts, evO, Nat.reduceLT, Nat.reduceEqDiff, reduceIte, fr0, okConst, okc, appendA, cellsA, boxA, allocA, storeA, loadA, fieldA, indexA, fieldV, indexV, partA, extractA, nilA, binA, intBin, unA, lenA, isAggD, isConst, Nat.reduceAdd, Nat.reduceMul, Nat.reduceLeDiff, Nat.reduceSub, Nat.reduceBEq, splice, reduceCtorEq, Int.reduceEq, Int.reduceLT, Int.reduceLE, Int.reduceNeg, Int.reduceBEq, String.reduceEq, eqFlat, tf, aOpI, ty121, isPtrD]
  refine hK _ _ ?_
  clear hK
  refine AWp.condF (by simp -implicitDefEqProofs only [vcT, wantedA, kp, kp2, kpS, kr, k1, k2, kL, kLP, kFn, kFn2, kSl, kSl2, kSl3, kC2, kP0, kP1, ev, evs, evParts, evO, Nat.reduceLT, Nat.reduceEqDiff, reduceIte, fr0, okConst, okc, appendA, cellsA, boxA, allocA, storeA, loadA, fieldA, indexA, fieldV, indexV, partA, extractA, nilA, binA, intBin, unA, lenA, isAggD, isConst, Nat.reduceAdd, Nat.reduceMul, Nat.reduceLeDiff, Nat.reduceSub, Nat.reduceBEq, splice, reduceCtorEq, Int.reduceEq, Int.reduceLT, Int.reduceLE, Int.reduceNeg, Int.reduceBEq, String.reduceEq, eqFlat, tf, aOpI]) ?_
  refine AWp.skip ?_
  refine hK0 _ _ ?_
  clear hK0
  refine AWp.seq_region tok fun K hK => ?_
  simp -implicitDefEqProofs only [vcT, wantedA, kp, kp2, kpS, kr, k1, k2, kL, kLP, kFn, kFn2, kSl, kSl2, kSl3, kC2, kP0, kP1, ev, evs, evParts, evO, Nat.reduceLT, Nat.reduceEqDiff, reduceIte, fr0, okConst, okc, appendA, cellsA, boxA, allocA, storeA, loadA, fieldA, indexA, fieldV, indexV, partA, extractA, nilA, binA, intBin, unA, lenA, isAggD, isConst, Nat.reduceAdd, Nat.reduceMul, Nat.reduceLeDiff, Nat.reduceSub, Nat.reduceBEq, splice, reduceCtorEq, Int.reduceEq, Int.reduceLT, Int.reduceLE, Int.reduceNeg, Int.reduceBEq, String.reduceEq, eqFlat, tf, aOpI]
  refine hK _ _ ?_
  clear hK
  refine AWp.block ?_
  refine AWp.seqK fun K9 hK9 => ?_
  have step9 : ∀ (f : Fr) (S1 : St) (L : List Nat), ModW n o S S1 → WrAt S1 n o L → L.length + 1 ≤ 100000 → L ++ [v % 256] = l ++ beN k v → f 0 = .pointer (some ⟨o, 0, none⟩) → f 1 = .int .u32 (v : Int) → K9 f S1 := by
    intro f S1 L hm hw hL he f0 f1
    obtain ⟨va, u, S2, a1, a2, a3, a4, a5, a6, a7⟩ := hw.step (x := v % 256) (by omega)
    refine hK9 _ _ ?_
    clear hK9
    refine AWp.seq_region tok fun K hK => ?_
    simp -implicitDefEqProofs only [vcT, wantedA, kp, kp2, kpS, kr, k1, k2, kL, kLP, kFn, kFn2, kSl, kSl2, kSl3, kC2, kP0, kP1, ev, evs, evParts, evO, Nat.reduceLT, Nat.reduceEqDiff, reduceIte, fr0, okConst, okc, cellsA, boxA, allocA, storeA, loadA, fieldA, indexA, fieldV, indexV, partA, extractA, nilA, binA, intBin, unA, lenA, isAggD, isConst, Nat.reduceAdd, Nat.reduceMul, Nat.reduceLeDiff, Nat.reduceSub, Nat.reduceBEq, splice, reduceCtorEq, Int.reduceEq, Int.reduceLT, Int.reduceLE, Int.reduceNeg, Int.reduceBEq, String.reduceEq, eqFlat, tf, aOpI, f0, f1, ty99, ty22, ty24, ty5, convA, wrap_u8_nat, bs22_1, a1, a2, a3, a6, a7]
    refine hK _ _ ?_
    clear hK
    refine AWp.exit ?_
    simp only [ThenA, BlockA, EndA, ressA, wrapA, if_true]
    rw [he] at a4
    exact ⟨hm.trans a5, a4⟩
  refine AWp.block ?_
  refine AWp.seqK fun K8 hK8 => ?_
  have step8 : ∀ (f : Fr) (S1 : St) (L : List Nat), ModW n o S S1 → WrAt S1 n o L → L.length + 2 ≤ 100000 → L ++ [v / 256 % 256, v % 256] = l ++ beN k v → f 0 = .pointer (some ⟨o, 0, none⟩) → f 1 = .int .u32 (v : Int) → K8 f S1 := by
    intro f S1 L hm hw hL he f0 f1
    obtain ⟨va, u, S2, a1, a2, a3, a4, a5, a6, a7⟩ := hw.step (x := v / 256 % 256) (by omega)
    refine hK8 _ _ ?_
    clear hK8
    refine AWp.regionK tok fun K hK => ?_
    simp -implicitDefEqProofs only [vcT, wantedA, kp, kp2, kpS, kr, k1, k2, kL, kLP, kFn, kFn2, kSl, kSl2, kSl3, kC2, kP0, kP1, ev, evs, evParts, evO, Nat.reduceLT, Nat.reduceEqDiff, reduceIte, fr0, okConst, okc, cellsA, boxA, allocA, storeA, loadA, fieldA, indexA, fieldV, indexV, partA, extractA, nilA, binA, intBin, unA, lenA, isAggD, isConst, Nat.reduceAdd, Nat.reduceMul, Nat.reduceLeDiff, Nat.reduceSub, Nat.reduceBEq, splice, reduceCtorEq, Int.reduceEq, Int.reduceLT, Int.reduceLE, Int.reduceNeg, Int.reduceBEq, String.reduceEq, eqFlat, tf, aOpI, f0, f1, ty99, ty22, ty24, ty5, convA, shr8, wrap_u8_nat, bs22_1, a1, a2, a3, a6, a7]
    refine hK _ _ ?_
    clear hK
    refine step9 _ _ (L ++ [v / 256 % 256]) (hm.trans a5) a4 (by simp; omega) ?_ ?_ ?_
    · rw [List.append_assoc]; exact he
    all_goals simp only [vcT, wantedA, kp, kp2, kpS, kr, k1, k2, kL, kLP, kFn, kFn2, kSl, kSl2, kSl3, kC2, kP0, kP1, ev, evs, evParts, evO, Nat.reduceLT, Nat.reduceEqDiff, reduceIte, fr0, okConst, okc, appendA, cellsA, boxA, allocA, storeA, loadA, fieldA, indexA, fieldV, indexV, partA, extractA, nilA, binA, intBin, unA, lenA, isAggD, isConst, Nat.reduceAdd, Nat.reduceMul, Nat.reduceLeDiff, Nat.reduceSub, Nat.reduceBEq, splice, reduceCtorEq, Int.reduceEq, Int.reduceLT, Int.reduceLE, Int.reduceNeg, Int.reduceBEq, String.reduceEq, eqFlat, tf, aOpI, f0, f1]
  refine AWp.block ?_
  refine AWp.seqK fun K7 hK7 => ?_
  have step7 : ∀ (f : Fr) (S1 : St) (L : List Nat), ModW n o S S1 → WrAt S1 n o L → L.length + 3 ≤ 100000 → L ++ [v / 65536 % 256, v / 256 % 256, v % 256] = l ++ beN k v → f 0 = .pointer (some ⟨o, 0, none⟩) → f 1 = .int .u32 (v : Int) → K7 f S1 := by
    intro f S1 L hm hw hL he f0 f1
    obtain ⟨va, u, S2, a1, a2, a3, a4, a5, a6, a7⟩ := hw.step (x := v / 65536 % 256) (by omega)
    refine hK7 _ _ ?_
    clear hK7
    refine AWp.regionK tok fun K hK => ?_
    simp -implicitDefEqProofs only [vcT, wantedA, kp, kp2, kpS, kr, k1, k2, kL, kLP, kFn, kFn2, kSl, kSl2, kSl3, kC2, kP0, kP1, ev, evs, evParts, evO, Nat.reduceLT, Nat.reduceEqDiff, reduceIte, fr0, okConst, okc, cellsA, boxA, allocA, storeA, loadA, fieldA, indexA, fieldV, indexV, partA, extractA, nilA, binA, intBin, unA, lenA, isAggD, isConst, Nat.reduceAdd, Nat.reduceMul, Nat.reduceLeDiff, Nat.reduceSub, Nat.reduceBEq, splice, reduceCtorEq, Int.reduceEq, Int.reduceLT, Int.reduceLE, Int.reduceNeg, Int.reduceBEq, String.reduceEq, eqFlat, tf, aOpI, f0, f1, ty99, ty22, ty24, ty5, convA, shr16, wrap_u8_nat, bs22_1, a1, a2, a3, a6, a7]
    refine hK _ _ ?_
    clear hK
    refine step8 _ _ (L ++ [v / 65536 % 256]) (hm.trans a5) a4 (by simp; omega) ?_ ?_ ?_
    · rw [List.append_assoc]; exact he
    all_goals simp only [vcT, wantedA, kp, kp2, kpS, kr, k1, k2, kL, kLP, kFn, kFn2, kSl, kSl2, kSl3, kC2, kP0, kP1, ev, evs, evParts, evO, Nat.reduceLT, Nat.reduceEqDiff, reduceIte, fr0, okConst, okc, appendA, cellsA, boxA, allocA, storeA, loadA, fieldA, indexA, fieldV, indexV, partA, extractA, nilA, binA, intBin, unA, lenA, isAggD, isConst, Nat.reduceAdd, Nat.reduceMul, Nat.reduceLeDiff, Nat.reduceSub, Nat.reduceBEq, splice, reduceCtorEq, Int.reduceEq, Int.reduceLT, Int.reduceLE, Int.reduceNeg, Int.reduceBEq, String.reduceEq, eqFlat, tf, aOpI, f0, f1]
  refine AWp.block ?_
  refine AWp.seqK fun K6 hK6 => ?_
  have step6 : ∀ (f : Fr) (S1 : St) (L : List Nat), ModW n o S S1 → WrAt S1 n o L → L.length + 4 ≤ 100000 → L ++ [v / 16777216 % 256, v / 65536 % 256, v / 256 % 256, v % 256] = l ++ beN k v → f 0 = .pointer (some ⟨o, 0, none⟩) → f 1 = .int .u32 (v : Int) → K6 f S1 := by
    intro f S1 L hm hw hL he f0 f1
    obtain ⟨va, u, S2, a1, a2, a3, a4, a5, a6, a7⟩ := hw.step (x := v / 16777216 % 256) (by omega)
    refine hK6 _ _ ?_
    clear hK6
    refine AWp.regionK tok fun K hK => ?_
    simp -implicitDefEqProofs only [vcT, wantedA, kp, kp2, kpS, kr, k1, k2, kL, kLP, kFn, kFn2, kSl, kSl2, kSl3, kC2, kP0, kP1, ev, evs, evParts, evO, Nat.reduceLT, Nat.reduceEqDiff, reduceIte, fr0, okConst, okc, cellsA, boxA, allocA, storeA, loadA, fieldA, indexA, fieldV, indexV, partA, extractA, nilA, binA, intBin, unA, lenA, isAggD, isConst, Nat.reduceAdd, Nat.reduceMul, Nat.reduceLeDiff, Nat.reduceSub, Nat.reduceBEq, splice, reduceCtorEq, Int.reduceEq, Int.reduceLT, Int.reduceLE, Int.reduceNeg, Int.reduceBEq, String.reduceEq, eqFlat, tf, aOpI, f0, f1, ty99, ty22, ty24, ty5, convA, shr24, wrap_u8_nat, bs22_1, a1, a2, a3, a6, a7]
    refine hK _ _ ?_
    clear hK
    refine step7 _ _ (L ++ [v / 16777216 % 256]) (hm.trans a5) a4 (by simp; omega) ?_ ?_ ?_
    · rw [List.append_assoc]; exact he
    all_goals simp only [vcT, wantedA, kp, kp2, kpS, kr, k1, k2, kL, kLP, kFn, kFn2, kSl, kSl2, kSl3, kC2, kP0, kP1, ev, evs, evParts, evO, Nat.reduceLT, Nat.reduceEqDiff, reduceIte, fr0, okConst, okc, appendA, cellsA, boxA, allocA, storeA, loadA, fieldA, indexA, fieldV, indexV, partA, extractA, nilA, binA, intBin, unA, lenA, isAggD, isConst, Nat.reduceAdd, Nat.reduceMul, Nat.reduceLeDiff, Nat.reduceSub, Nat.reduceBEq, splice, reduceCtorEq, Int.reduceEq, Int.reduceLT, Int.reduceLE, Int.reduceNeg, Int.reduceBEq, String.reduceEq, eqFlat, tf, aOpI, f0, f1]
  refine AWp.block ?_
  refine AWp.seqK fun KX hKX => ?_
  clear hK9 hK8 hK7 hK6
  have e0 : v / 256 ^ 0 % 256 = v % 256 := by simp
  rcases hk with rfl | rfl | rfl
  · have i1 : (((1 : Nat) : Int) == 4) = false := rfl
    have i2 : (((1 : Nat) : Int) == 3) = false := rfl
    have i3 : (((1 : Nat) : Int) == 2) = false := rfl
    have i4 : (((1 : Nat) : Int) == 1) = true := rfl
    clear hKX
    refine AWp.seqK fun KA hKA => ?_
    refine AWp.seq_region tok fun K hK => ?_
    simp -implicitDefEqProofs only [vcT, wantedA, kp, kp2, kpS, kr, k1, k2, kL, kLP, kFn, kFn2, kSl, kSl2, kSl3, kC2, kP0, kP1, ev, evs, evParts, evO, Nat.reduceLT, Nat.reduceEqDiff, reduceIte, fr0, okConst, okc, appendA, cellsA, boxA, allocA, storeA, loadA, fieldA, indexA, fieldV, indexV, partA, extractA, nilA, binA, intBin, unA, lenA, isAggD, isConst, Nat.reduceAdd, Nat.reduceMul, Nat.reduceLeDiff, Nat.reduceSub, Nat.reduceBEq, splice, reduceCtorEq, Int.reduceEq, Int.reduceLT, Int.reduceLE, Int.reduceNeg, Int.reduceBEq, String.reduceEq, eqFlat, tf, aOpI, i1]
    refine hK _ _ ?_
    clear hK
    refine AWp.condF (by simp -implicitDefEqProofs only [vcT, wantedA, kp, kp2, kpS, kr, k1, k2, kL, kLP, kFn, kFn2, kSl, kSl2, kSl3, kC2, kP0, kP1, ev, evs, evParts, evO, Nat.reduceLT, Nat.reduceEqDiff, reduceIte, fr0, okConst, okc, appendA, cellsA, boxA, allocA, storeA, loadA, fieldA, indexA, fieldV, indexV, partA, extractA, nilA, binA, intBin, unA, lenA, isAggD, isConst, Nat.reduceAdd, Nat.reduceMul, Nat.reduceLeDiff, Nat.reduceSub, Nat.reduceBEq, splice, reduceCtorEq, Int.reduceEq, Int.reduceLT, Int.reduceLE, Int.reduceNeg, Int.reduceBEq, String.reduceEq, eqFlat, tf, aOpI]) ?_
    refine AWp.skip ?_
    refine hKA _ _ ?_
    clear hKA
    refine AWp.seqK fun KA hKA => ?_
    refine AWp.seq_region tok fun K hK => ?_
    simp -implicitDefEqProofs only [vcT, wantedA, kp, kp2, kpS, kr, k1, k2, kL, kLP, kFn, kFn2, kSl, kSl2, kSl3, kC2, kP0, kP1, ev, evs, evParts, evO, Nat.reduceLT, Nat.reduceEqDiff, reduceIte, fr0, okConst, okc, appendA, cellsA, boxA, allocA, storeA, loadA, fieldA, indexA, fieldV, indexV, partA, extractA, nilA, binA, intBin, unA, lenA, isAggD, isConst, Nat.reduceAdd, Nat.reduceMul, Nat.reduceLeDiff, Nat.reduceSub, Nat.reduceBEq, splice, reduceCtorEq, Int.reduceEq, Int.reduceLT, Int.reduceLE, Int.reduceNeg, Int.reduceBEq, String.reduceEq, eqFlat, tf, aOpI, i2]
    refine hK _ _ ?_
    clear hK
    refine AWp.condF (by simp -implicitDefEqProofs only [vcT, wantedA, kp, kp2, kpS, kr, k1, k2, kL, kLP, kFn, kFn2, kSl, kSl2, kSl3, kC2, kP0, kP1, ev, evs, evParts, evO, Nat.reduceLT, Nat.reduceEqDiff, reduceIte, fr0, okConst, okc, appendA, cellsA, boxA, allocA, storeA, loadA, fieldA, indexA, fieldV, indexV, partA, extractA, nilA, binA, intBin, unA, lenA, isAggD, isConst, Nat.reduceAdd, Nat.reduceMul, Nat.reduceLeDiff, Nat.reduceSub, Nat.reduceBEq, splice, reduceCtorEq, Int.reduceEq, Int.reduceLT, Int.reduceLE, Int.reduceNeg, Int.reduceBEq, String.reduceEq, eqFlat, tf, aOpI]) ?_
    refine AWp.skip ?_
    refine hKA _ _ ?_
    clear hKA
    refine AWp.seqK fun KA hKA => ?_
    refine AWp.seq_region tok fun K hK => ?_
    simp -implicitDefEqProofs only [vcT, wantedA, kp, kp2, kpS, kr, k1, k2, kL, kLP, kFn, kFn2, kSl, kSl2, kSl3, kC2, kP0, kP1, ev, evs, evParts, evO, Nat.reduceLT, Nat.reduceEqDiff, reduceIte, fr0, okConst, okc, appendA, cellsA, boxA, allocA, storeA, loadA, fieldA, indexA, fieldV, indexV, partA, extractA, nilA, binA, intBin, unA, lenA, isAggD, isConst, Nat.reduceAdd, Nat.reduceMul, Nat.reduceLeDiff, Nat.reduceSub, Nat.reduceBEq, splice, reduceCtorEq, Int.reduceEq, Int.reduceLT, Int.reduceLE, Int.reduceNeg, Int.reduceBEq, String.reduceEq, eqFlat, tf, aOpI, i3]
    refine hK _ _ ?_
    clear hK
    refine AWp.condF (by simp -implicitDefEqProofs only [vcT, wantedA, kp, kp2, kpS, kr, k1, k2, kL, kLP, kFn, kFn2, kSl, kSl2, kSl3, kC2, kP0, kP1, ev, evs, evParts, evO, Nat.reduceLT, Nat.reduceEqDiff, reduceIte, fr0, okConst, okc, appendA, cellsA, boxA, allocA, storeA, loadA, fieldA, indexA, fieldV, indexV, partA, extractA, nilA, binA, intBin, unA, lenA, isAggD, isConst, Nat.reduceAdd, Nat.reduceMul, Nat.reduceLeDiff, Nat.reduceSub, Nat.reduceBEq, splice, reduceCtorEq, Int.reduceEq, Int.reduceLT, Int.reduceLE, Int.reduceNeg, Int.reduceBEq, String.reduceEq, eqFlat, tf, aOpI]) ?_
    refine AWp.skip ?_
    refine hKA _ _ ?_
    clear hKA
    refine AWp.seq_region tok fun K hK => ?_
    simp -implicitDefEqProofs only [vcT, wantedA, kp, kp2, kpS, kr, k1, k2, kL, kLP, kFn, kFn2, kSl, kSl2, kSl3, kC2, kP0, kP1, ev, evs, evParts, evO, Nat.reduceLT, Nat.reduceEqDiff, reduceIte, fr0, okConst, okc, appendA, cellsA, boxA, allocA, storeA, loadA, fieldA, indexA, fieldV, indexV, partA, extractA, nilA, binA, intBin, unA, lenA, isAggD, isConst, Nat.reduceAdd, Nat.reduceMul, Nat.reduceLeDiff, Nat.reduceSub, Nat.reduceBEq, splice, reduceCtorEq, Int.reduceEq, Int.reduceLT, Int.reduceLE, Int.reduceNeg, Int.reduceBEq, String.reduceEq, eqFlat, tf, aOpI, i4]
    refine hK _ _ ?_
    clear hK
    refine AWp.condT (by simp -implicitDefEqProofs only [vcT, wantedA, kp, kp2, kpS, kr, k1, k2, kL, kLP, kFn, kFn2, kSl, kSl2, kSl3, kC2, kP0, kP1, ev, evs, evParts, evO, Nat.reduceLT, Nat.reduceEqDiff, reduceIte, fr0, okConst, okc, appendA, cellsA, boxA, allocA, storeA, loadA, fieldA, indexA, fieldV, indexV, partA, extractA, nilA, binA, intBin, unA, lenA, isAggD, isConst, Nat.reduceAdd, Nat.reduceMul, Nat.reduceLeDiff, Nat.reduceSub, Nat.reduceBEq, splice, reduceCtorEq, Int.reduceEq, Int.reduceLT, Int.reduceLE, Int.reduceNeg, Int.reduceBEq, String.reduceEq, eqFlat, tf, aOpI]) ?_
    refine AWp.exit ?_
    simp only [ThenA, BlockA, Nat.reduceEqDiff, if_true, if_false, reduceIte]
    refine step9 _ _ l (ModW.refl _ _ _) h (by omega) (by simp only [beN, e0]) ?_ ?_
    all_goals simp only [vcT, wantedA, kp, kp2, kpS, kr, k1, k2, kL, kLP, kFn, kFn2, kSl, kSl2, kSl3, kC2, kP0, kP1, ev, evs, evParts, evO, Nat.reduceLT, Nat.reduceEqDiff, reduceIte, fr0, okConst, okc, appendA, cellsA, boxA, allocA, storeA, loadA, fieldA, indexA, fieldV, indexV, partA, extractA, nilA, binA, intBin, unA, lenA, isAggD, isConst, Nat.reduceAdd, Nat.reduceMul, Nat.reduceLeDiff, Nat.reduceSub, Nat.reduceBEq, splice, reduceCtorEq, Int.reduceEq, Int.reduceLT, Int.reduceLE, Int.reduceNeg, Int.reduceBEq, String.reduceEq, eqFlat, tf, aOpI]
  · have i1 : (((2 : Nat) : Int) == 4) = false := rfl
    have i2 : (((2 : Nat) : Int) == 3) = false := rfl
    have i3 : (((2 : Nat) : Int) == 2) = true := rfl
    clear hKX
    refine AWp.seqK fun KA hKA => ?_
    refine AWp.seq_region tok fun K hK => ?_
    simp -implicitDefEqProofs only [vcT, wantedA, kp, kp2, kpS, kr, k1, k2, kL, kLP, kFn, kFn2, kSl, kSl2, kSl3, kC2, kP0, kP1, ev, evs, evParts, evO, Nat.reduceLT, Nat.reduceEqDiff, reduceIte, fr0, okConst, okc, appendA, cellsA, boxA, allocA, storeA, loadA, fieldA, indexA, fieldV, indexV, partA, extractA, nilA, binA, intBin, unA, lenA, isAggD, isConst, Nat.reduceAdd, Nat.reduceMul, Nat.reduceLeDiff, Nat.reduceSub, Nat.reduceBEq, splice, reduceCtorEq, Int.reduceEq, Int.reduceLT, Int.reduceLE, Int.reduceNeg, Int.reduceBEq, String.reduceEq, eqFlat, tf, aOpI, i1]
    refine hK _ _ ?_
    clear hK
    refine AWp.condF (by simp -implicitDefEqProofs only [vcT, wantedA, kp, kp2, kpS, kr, k1, k2, kL, kLP, kFn, kFn2, kSl, kSl2, kSl3, kC2, kP0, kP1, ev, evs, evParts, evO, Nat.reduceLT, Nat.reduceEqDiff, reduceIte, fr0, okConst, okc, appendA, cellsA, boxA, allocA, storeA, loadA, fieldA, indexA, fieldV, indexV, partA, extractA, nilA, binA, intBin, unA, lenA, isAggD, isConst, Nat.reduceAdd, Nat.reduceMul, Nat.reduceLeDiff, Nat.reduceSub, Nat.reduceBEq, splice, reduceCtorEq, Int.reduceEq, Int.reduceLT, Int.reduceLE, Int.reduceNeg, Int.reduceBEq, String.reduceEq, eqFlat, tf, aOpI]) ?_
    refine AWp.skip ?_
    refine hKA _ _ ?_
    clear hKA
    refine AWp.seqK fun KA hKA => ?_
    refine AWp.seq_region tok fun K hK => ?_
    simp -implicitDefEqProofs only [vcT, wantedA, kp, kp2, kpS, kr, k1, k2, kL, kLP, kFn, kFn2, kSl, kSl2, kSl3, kC2, kP0, kP1, ev, evs, evParts, evO, Nat.reduceLT, Nat.reduceEqDiff, reduceIte, fr0, okConst, okc, appendA, cellsA, boxA, allocA, storeA, loadA, fieldA, indexA, fieldV, indexV, partA, extractA, nilA, binA, intBin, unA, lenA, isAggD, isConst, Nat.reduceAdd, Nat.reduceMul, Nat.reduceLeDiff, Nat.reduceSub, Nat.reduceBEq, splice, reduceCtorEq, Int.reduceEq, Int.reduceLT, Int.reduceLE, Int.reduceNeg, Int.reduceBEq, String.reduceEq, eqFlat, tf, aOpI, i2]
    refine hK _ _ ?_
    clear hK
    refine AWp.condF (by simp -implicitDefEqProofs only [vcT, wantedA, kp, kp2, kpS, kr, k1, k2, kL, kLP, kFn, kFn2, kSl, kSl2, kSl3, kC2, kP0, kP1, ev, evs, evParts, evO, Nat.reduceLT, Nat.reduceEqDiff, reduceIte, fr0, okConst, okc, appendA, cellsA, boxA, allocA, storeA, loadA, fieldA, indexA, fieldV, indexV, partA, extractA, nilA, binA, intBin, unA, lenA, isAggD, isConst, Nat.reduceAdd, Nat.reduceMul, Nat.reduceLeDiff, Nat.reduceSub, Nat.reduceBEq, splice, reduceCtorEq, Int.reduceEq, Int.reduceLT, Int.reduceLE, Int.reduceNeg, Int.reduceBEq, String.reduceEq, eqFlat, tf, aOpI]) ?_
    refine AWp.skip ?_
    refine hKA _ _ ?_
    clear hKA
    refine AWp.seqK fun KA hKA => ?_
    refine AWp.seq_region tok fun K hK => ?_
    simp -implicitDefEqProofs only [vcT, wantedA, kp, kp2, kpS, kr, k1, k2, kL, kLP, kFn, kFn2, kSl, kSl2, kSl3, kC2, kP0, kP1, ev, evs, evParts, evO, Nat.reduceLT, Nat.reduceEqDiff, reduceIte, fr0, okConst, okc, appendA, cellsA, boxA, allocA, storeA, loadA, fieldA, indexA, fieldV, indexV, partA, extractA, nilA, binA, intBin, unA, lenA, isAggD, isConst, Nat.reduceAdd, Nat.reduceMul, Nat.reduceLeDiff, Nat.reduceSub, Nat.reduceBEq, splice, reduceCtorEq, Int.reduceEq, Int.reduceLT, Int.reduceLE, Int.reduceNeg, Int.reduceBEq, String.reduceEq, eqFlat, tf, aOpI, i3]
    refine hK _ _ ?_
    clear hK
    refine AWp.condT (by simp -implicitDefEqProofs only [vcT, wantedA, kp, kp2, kpS, kr, k1, k2, kL, kLP, kFn, kFn2, kSl, kSl2, kSl3, kC2, kP0, kP1, ev, evs, evParts, evO, Nat.reduceLT, Nat.reduceEqDiff, reduceIte, fr0, okConst, okc, appendA, cellsA, boxA, allocA, storeA, loadA, fieldA, indexA, fieldV, indexV, partA, extractA, nilA, binA, intBin, unA, lenA, isAggD, isConst, Nat.reduceAdd, Nat.reduceMul, Nat.reduceLeDiff, Nat.reduceSub, Nat.reduceBEq, splice, reduceCtorEq, Int.reduceEq, Int.reduceLT, Int.reduceLE, Int.reduceNeg, Int.reduceBEq, String.reduceEq, eqFlat, tf, aOpI]) ?_
    refine AWp.exit ?_
    simp only [ThenA, BlockA, Nat.reduceEqDiff, if_true, if_false, reduceIte]
    refine step8 _ _ l (ModW.refl _ _ _) h (by omega) (by simp only [beN, e0]) ?_ ?_
    all_goals simp only [vcT, wantedA, kp, kp2, kpS, kr, k1, k2, kL, kLP, kFn, kFn2, kSl, kSl2, kSl3, kC2, kP0, kP1, ev, evs, evParts, evO, Nat.reduceLT, Nat.reduceEqDiff, reduceIte, fr0, okConst, okc, appendA, cellsA, boxA, allocA, storeA, loadA, fieldA, indexA, fieldV, indexV, partA, extractA, nilA, binA, intBin, unA, lenA, isAggD, isConst, Nat.reduceAdd, Nat.reduceMul, Nat.reduceLeDiff, Nat.reduceSub, Nat.reduceBEq, splice, reduceCtorEq, Int.reduceEq, Int.reduceLT, Int.reduceLE, Int.reduceNeg, Int.reduceBEq, String.reduceEq, eqFlat, tf, aOpI]
  · have i1 : (((4 : Nat) : Int) == 4) = true := rfl
    clear hKX
    refine AWp.seqK fun KA hKA => ?_
    refine AWp.seq_region tok fun K hK => ?_
    simp -implicitDefEqProofs only [vcT, wantedA, kp, kp2, kpS, kr, k1, k2, kL, kLP, kFn, kFn2, kSl, kSl2, kSl3, kC2, kP0, kP1, ev, evs, evParts, evO, Nat.reduceLT, Nat.reduceEqDiff, reduceIte, fr0, okConst, okc, appendA, cellsA, boxA, allocA, storeA, loadA, fieldA, indexA, fieldV, indexV, partA, extractA, nilA, binA, intBin, unA, lenA, isAggD, isConst, Nat.reduceAdd, Nat.reduceMul, Nat.reduceLeDiff, Nat.reduceSub, Nat.reduceBEq, splice, reduceCtorEq, Int.reduceEq, Int.reduceLT, Int.reduceLE, Int.reduceNeg, Int.reduceBEq, String.reduceEq, eqFlat, tf, aOpI, i1]
    refine hK _ _ ?_
    clear hK
    refine AWp.condT (by simp -implicitDefEqProofs only [vcT, wantedA, kp, kp2, kpS, kr, k1, k2, kL, kLP, kFn, kFn2, kSl, kSl2, kSl3, kC2, kP0, kP1, ev, evs, evParts, evO, Nat.reduceLT, Nat.reduceEqDiff, reduceIte, fr0, okConst, okc, appendA, cellsA, boxA, allocA, storeA, loadA, fieldA, indexA, fieldV, indexV, partA, extractA, nilA, binA, intBin, unA, lenA, isAggD, isConst, Nat.reduceAdd, Nat.reduceMul, Nat.reduceLeDiff, Nat.reduceSub, Nat.reduceBEq, splice, reduceCtorEq, Int.reduceEq, Int.reduceLT, Int.reduceLE, Int.reduceNeg, Int.reduceBEq, String.reduceEq, eqFlat, tf, aOpI]) ?_
    refine AWp.exit ?_
    simp only [ThenA, BlockA, Nat.reduceEqDiff, if_true, if_false, reduceIte]
    refine step6 _ _ l (ModW.refl _ _ _) h (by omega) (by simp only [beN, e0]) ?_ ?_
    all_goals simp only [vcT, wantedA, kp, kp2, kpS, kr, k1, k2, kL, kLP, kFn, kFn2, kSl, kSl2, kSl3, kC2, kP0, kP1, ev, evs, evParts, evO, Nat.reduceLT, Nat.reduceEqDiff, reduceIte, fr0, okConst, okc, appendA, cellsA, boxA, allocA, storeA, loadA, fieldA, indexA, fieldV, indexV, partA, extractA, nilA, binA, intBin, unA, lenA, isAggD, isConst, Nat.reduceAdd, Nat.reduceMul, Nat.reduceLeDiff, Nat.reduceSub, Nat.reduceBEq, splice, reduceCtorEq, Int.reduceEq, Int.reduceLT, Int.reduceLE, Int.reduceNeg, Int.reduceBEq, String.reduceEq, eqFlat, tf, aOpI]

/-- A store of one object. -/
def onlyT (o : Nat) (x : AObj) : St := List.replicate o .dead ++ [x]
theorem onlyT_get (o : Nat) (x : AObj) : (onlyT o x)[o]? = some x := by
  unfold onlyT
  rw [List.getElem?_append_right (by simp)]
  simp
theorem onlyT_le {o : Nat} {x : AObj} {S : St} (h : S[o]? = some x) : Le (onlyT o x) S := by
  intro j ty rw cs hj
  unfold onlyT at hj
  rcases Nat.lt_trichotomy j o with h1 | h1 | h1
  · rw [List.getElem?_append_left (by simpa using h1), List.getElem?_replicate] at hj
    rw [if_pos h1] at hj
    cases hj
  · subst h1
    rw [List.getElem?_append_right (by simp)] at hj
    simp at hj
    rw [h, hj]
  · rw [List.getElem?_eq_none (by simp; omega)] at hj
    cases hj

def textB (l : List Nat) : List Nat := min l.length 255 % 256 :: l.take (min l.length 255)
theorem enter48 (cargs : Array Value) (w : World) : (callFunc 48 cargs).run Try.prog w = .ok (.enter 48 cargs) w := by kernel_rfl
set_option maxHeartbeats 1000000 in
theorem call48 {S0 S : St} {n o : Nat} {l d : List Nat} {vd : Value} (h : WrAt S n o l) (hd : SlB S0 vd d) (hk : Keeps S0 S) (hn : S0.length ≤ n) (hl : l.length + 256 ≤ 100000) (hdl : d.length ≤ 255) :
    ACalls Try.prog 48 [.pointer (some ⟨o, 0, none⟩), vd] S (fun _ S' => ModW n o S S' ∧ WrAt S' n o (l ++ (d.length :: d))) := by
  refine ACalls.of tok enter48 Try.func48 rfl (m := 25) rfl (by simp) (rs := []) rfl fun hc ha => ?_
  clear ha
  refine AWp.seqK fun K0 hK0 => ?_
  refine AWp.seq_region tok fun K hK => ?_
  simp -implicitDefEqProofs only [vcT, wantedA, kp, kp2, kpS, kr, k1, k2, kL, kLP, kFn, kFn2, kSl, kSl2, kSl3, kC2, kP0, kP1, ev, evs, evParts, evO, Nat.reduceLT, Nat.reduceEqDiff, reduceIte, fr0, okConst, okc, appendA, cellsA, boxA, allocA, storeA, loadA, fieldA, indexA, fieldV, indexV, partA, extractA, nilA, binA, intBin, unA, lenA, isAggD, isConst, Nat.reduceAdd, Nat.reduceMul, Nat.reduceLeDiff, Nat.reduceSub, Nat.reduceBEq, splice, reduceCtorEq, Int.reduceEq, Int.reduceLT, Int.reduceLE, Int.reduceNeg, Int.reduceBEq, String.reduceEq, eqFlat, tf, aOpI, ty121, isPtrD]
  refine hK _ _ ?_
  clear hK
  refine AWp.condF (by simp -implicitDefEqProofs only [vcT, wantedA, kp, kp2, kpS, kr, k1, k2, kL, kLP, kFn, kFn2, kSl, kSl2, kSl3, kC2, kP0, kP1, ev, evs, evParts, evO, Nat.reduceLT, Nat.reduceEqDiff, reduceIte, fr0, okConst, okc, appendA, cellsA, boxA, allocA, storeA, loadA, fieldA, indexA, fieldV, indexV, partA, extractA, nilA, binA, intBin, unA, lenA, isAggD, isConst, Nat.reduceAdd, Nat.reduceMul, Nat.reduceLeDiff, Nat.reduceSub, Nat.reduceBEq, splice, reduceCtorEq, Int.reduceEq, Int.reduceLT, Int.reduceLE, Int.reduceNeg, Int.reduceBEq, String.reduceEq, eqFlat, tf, aOpI]) ?_
  refine AWp.skip ?_
  refine hK0 _ _ ?_
  clear hK0
  have hd1 := hd.keeps hk
  have hdln := hd1.len
  have m1 : ¬ (255 < (d.length : Int)) := by omega
  obtain ⟨ud, s1, hu⟩ := hd.sub 0 d.length (by omega) (by omega) none (some (.int .i64 ((d.length : Nat) : Int))) (.inr ⟨rfl, rfl⟩) (.inl rfl)
  rw [List.take_length, List.drop_zero] at hu
  refine AWp.seq_region tok fun K hK => ?_
  simp -implicitDefEqProofs only [vcT, wantedA, kp, kp2, kpS, kr, k1, k2, kL, kLP, kFn, kFn2, kSl, kSl2, kSl3, kC2, kP0, kP1, ev, evs, evParts, evO, Nat.reduceLT, Nat.reduceEqDiff, reduceIte, fr0, okConst, okc, appendA, cellsA, boxA, allocA, storeA, loadA, fieldA, indexA, fieldV, indexV, partA, extractA, nilA, binA, intBin, unA, isAggD, isConst, Nat.reduceAdd, Nat.reduceMul, Nat.reduceLeDiff, Nat.reduceSub, Nat.reduceBEq, splice, reduceCtorEq, Int.reduceEq, Int.reduceLT, Int.reduceLE, Int.reduceNeg, Int.reduceBEq, String.reduceEq, eqFlat, tf, aOpI, hdln, minA, m1]
  refine hK _ _ ?_
  clear hK
  obtain ⟨v, h1, h2⟩ := h.row
  have hlo := h.lo
  have hol := (List.getElem?_eq_some_iff.1 h1).1
  have w1 : IntKind.wrap .u8 (d.length : Int) = (d.length : Int) := by rw [wrap_u8_nat]; omega
  have h2' : GrB (S ++ [.row 5 true [.int .u8 ((d.length : Nat) : Int)]]) n v l := by
    rcases h2 with h | h
    · exact .inl h
    · exact .inr (h.keeps (Keeps.append _ _))
  obtain ⟨u2, S2, a1, a2, a3, a4⟩ := h2'.app (x := .slice (some ⟨S.length, 0, none⟩) 1 1) (m := [d.length]) (by simp [cellsA, bys]) (by simp; omega) (by simp; omega)
  have g1 : (S ++ [AObj.row 5 true [.int .u8 ((d.length : Nat) : Int)]])[o]? = some (.row 99 true [v]) := at_old h1 _
  have g2 : S2[o]? = some (.row 99 true [v]) := (a3 (o + 1)).get g1 (by decide) (by omega)
  have hk2 : Keeps S0 S2 := (a3 o).keeps (hk.more _) hn
  obtain ⟨u3, S3, b1, b2, b3, b4⟩ := a2.app (x := ud) (m := d) (hu.keeps hk2).cells (by simp; omega) a4
  have g3 : S3[o]? = some (.row 99 true [v]) := (b3 (o + 1)).get g2 (by decide) (by omega)
  have t0 := onlyT_get o (.row 99 true [v])
  have t1 := eq_true (onlyT_le g1)
  have t2 := eq_true (onlyT_le g2)
  have t3 := eq_true (onlyT_le g3)
  have ol3 := (List.getElem?_eq_some_iff.1 g3).1
  have c1 := b2.slB.one.1
  have c2 := b2.slB.one.2
  refine AWp.drawK tok mixed [(0, 3), (1, 3), (2, 3), (3, 3), (4, 0), (5, 3), (6, 0), (9, 3), (10, 3), (11, 3), (7, 1), (8, 1), (12, 1), (13, 2), (14, 2), (15, 2)] (onlyT o (.row 99 true [v])) (by kernel_rfl) (onlyT_le h1) fun K hK => ?_
  simp -implicitDefEqProofs only [vcT, wantedA, kp, kp2, kpS, kr, k1, k2, kL, kLP, kFn, kFn2, kSl, kSl2, kSl3, kC2, kP0, kP1, ev, evs, evParts, evO, Nat.reduceLT, Nat.reduceEqDiff, reduceIte, fr0, okConst, okc, cellsA, boxA, allocA, storeA, loadA, fieldA, indexA, fieldV, indexV, partA, extractA, nilA, binA, intBin, unA, lenA, isAggD, isConst, Nat.reduceAdd, Nat.reduceMul, Nat.reduceLeDiff, Nat.reduceSub, Nat.reduceBEq, splice, reduceCtorEq, Int.reduceEq, Int.reduceLT, Int.reduceLE, Int.reduceNeg, Int.reduceBEq, String.reduceEq, eqFlat, tf, aOpI, m1, w1, s1, t0, ty99, ty22, ty3, ty5, convA, bs22_1, a1, b1, g3, t1, t2, t3, c1, c2]
  refine hK _ _ ?_
  clear hK
  simp only [EndA, ressA, wrapA]
  refine ⟨?_, ⟨u3, List.getElem?_set_self ol3, ?_⟩, hlo, by simp; omega⟩
  · refine ⟨by have p := (a3 o).1; have q := (b3 o).1; simp at p ⊢; omega, fun j hj => ?_, fun j ty rw cs hj hty hne => ?_⟩
    · rw [List.getElem?_set_ne (by omega), (b3 o).2.1 j hj, (a3 o).2.1 j hj, List.getElem?_append_left (by omega)]
    · rw [List.getElem?_set_ne (Ne.symm hne), hj]
      exact (b3 o).get ((a3 o).get (at_old hj _) hty hne) hty hne
  · rw [List.append_assoc] at b2
    refine GrB.modW (o := o) (n' := n) b2 (Nat.le_refl _) fun ob _ cs hc => List.getElem?_set_ne (fun e => ?_)
    subst e
    rw [g3] at hc
    cases hc

theorem enter49 (cargs : Array Value) (w : World) : (callFunc 49 cargs).run Try.prog w = .ok (.enter 49 cargs) w := by kernel_rfl
theorem call49 {S : St} {n o : Nat} {l : List Nat} (h : WrAt S n o l) :
    ACalls Try.prog 49 [.pointer (some ⟨o, 0, none⟩)] S (fun x S' => Keeps S S' ∧ OwB S' S.length x l) := by
  refine ACalls.of tok enter49 Try.func49 rfl (m := 11) rfl (by simp) (rs := [.tmp 2]) rfl fun hc ha => ?_
  clear ha
  refine AWp.seq_region tok fun K hK => ?_
  simp -implicitDefEqProofs only [vcT, wantedA, kp, kp2, kpS, kr, k1, k2, kL, kLP, kFn, kFn2, kSl, kSl2, kSl3, kC2, kP0, kP1, ev, evs, evParts, evO, Nat.reduceLT, Nat.reduceEqDiff, reduceIte, fr0, okConst, okc, appendA, cellsA, boxA, allocA, storeA, loadA, fieldA, indexA, fieldV, indexV, partA, extractA, nilA, binA, intBin, unA, lenA, isAggD, isConst, Nat.reduceAdd, Nat.reduceMul, Nat.reduceLeDiff, Nat.reduceSub, Nat.reduceBEq, splice, reduceCtorEq, Int.reduceEq, Int.reduceLT, Int.reduceLE, Int.reduceNeg, Int.reduceBEq, String.reduceEq, eqFlat, tf, aOpI]
  refine hK _ _ ?_
  clear hK
  refine AWp.seqK fun K0 hK0 => ?_
  refine AWp.seq_region tok fun K hK => ?_
  simp -implicitDefEqProofs only [vcT, wantedA, kp, kp2, kpS, kr, k1, k2, kL, kLP, kFn, kFn2, kSl, kSl2, kSl3, kC2, kP0, kP1, ev, evs, evParts, evO, Nat.reduceLT, Nat.reduceEqDiff, reduceIte, fr0, okConst, okc, appendA, cellsA, boxA, allocA, storeA, loadA, fieldA, indexA, fieldV, indexV, partA, extractA, nilA, binA, intBin, unA, lenA, isAggD, isConst, Nat.reduceAdd, Nat.reduceMul, Nat.reduceLeDiff, Nat.reduceSub, Nat.reduceBEq, splice, reduceCtorEq, Int.reduceEq, Int.reduceLT, Int.reduceLE, Int.reduceNeg, Int.reduceBEq, String.reduceEq, eqFlat, tf, aOpI, ty121, isPtrD]
  refine hK _ _ ?_
  clear hK
  refine AWp.condF (by simp -implicitDefEqProofs only [vcT, wantedA, kp, kp2, kpS, kr, k1, k2, kL, kLP, kFn, kFn2, kSl, kSl2, kSl3, kC2, kP0, kP1, ev, evs, evParts, evO, Nat.reduceLT, Nat.reduceEqDiff, reduceIte, fr0, okConst, okc, appendA, cellsA, boxA, allocA, storeA, loadA, fieldA, indexA, fieldV, indexV, partA, extractA, nilA, binA, intBin, unA, lenA, isAggD, isConst, Nat.reduceAdd, Nat.reduceMul, Nat.reduceLeDiff, Nat.reduceSub, Nat.reduceBEq, splice, reduceCtorEq, Int.reduceEq, Int.reduceLT, Int.reduceLE, Int.reduceNeg, Int.reduceBEq, String.reduceEq, eqFlat, tf, aOpI]) ?_
  refine AWp.skip ?_
  refine hK0 _ _ ?_
  clear hK0
  obtain ⟨v, h1, h2⟩ := h.row
  have h1' : ∀ R, (S ++ R)[o]? = some (.row 99 true [v]) := fun R => at_old h1 R
  have hln := h.len
  have hx : cellsA (S ++ [AObj.row 5 true []]) 1 v = some (l.length, bys l) := (h2.slB.append _).cells
  have hap : appendA TT (S ++ [AObj.row 5 true []]) 22 (.slice (some ⟨S.length, 0, none⟩) 0 1) v = some (.slice (some ⟨(S ++ [AObj.row 5 true []]).length, 0, none⟩) ([] ++ l).length 1, (S ++ [AObj.row 5 true []]).set S.length .dead ++ [.row 5 true (bys ([] ++ l))]) :=
    app_own (S := S ++ [AObj.row 5 true []]) (l := []) (by simp [bys]) hx (by simp; omega)
  refine AWp.seq_region tok fun K hK => ?_
  simp -implicitDefEqProofs only [vcT, wantedA, kp, kp2, kpS, kr, k1, k2, kL, kLP, kFn, kFn2, kSl, kSl2, kSl3, kC2, kP0, kP1, ev, evs, evParts, evO, Nat.reduceLT, Nat.reduceEqDiff, reduceIte, fr0, okConst, okc, cellsA, boxA, allocA, storeA, loadA, fieldA, indexA, fieldV, indexV, partA, extractA, nilA, binA, intBin, unA, lenA, isAggD, isConst, Nat.reduceAdd, Nat.reduceMul, Nat.reduceLeDiff, Nat.reduceSub, Nat.reduceBEq, splice, reduceCtorEq, Int.reduceEq, Int.reduceLT, Int.reduceLE, Int.reduceNeg, Int.reduceBEq, String.reduceEq, eqFlat, tf, aOpI, bs22_0, h1', hap, ty99, ty22]
  refine hK _ _ ?_
  clear hK
  refine AWp.ret ?_
  simp -implicitDefEqProofs only [vcT, wantedA, kp, kp2, kpS, kr, k1, k2, kL, kLP, kFn, kFn2, kSl, kSl2, kSl3, kC2, kP0, kP1, ev, evs, evParts, evO, Nat.reduceLT, Nat.reduceEqDiff, reduceIte, fr0, okConst, okc, appendA, cellsA, boxA, allocA, storeA, loadA, fieldA, indexA, fieldV, indexV, partA, extractA, nilA, binA, intBin, unA, lenA, isAggD, isConst, Nat.reduceAdd, Nat.reduceMul, Nat.reduceLeDiff, Nat.reduceSub, Nat.reduceBEq, splice, reduceCtorEq, Int.reduceEq, Int.reduceLT, Int.reduceLE, Int.reduceNeg, Int.reduceBEq, String.reduceEq, eqFlat, tf, aOpI, ThenA, BlockA, EndA, ressA, resA, wrapA]
  exact ⟨Keeps.append _ _, S.length + 1, by omega, by simp, by simp⟩
end Go.Proofs.Ytpgiiidnimbdgaa
