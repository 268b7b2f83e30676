/- The document's reading of a frame, walked. -/
import Derived.Test.YtpgiiidnimbdgaaAbF19
namespace Go.Proofs.Ytpgiiidnimbdgaa
open Go.Ab
set_option linter.unusedSimpArgs false
set_option linter.unusedVariables false
set_option maxRecDepth 4000

theorem ftake {S : St} {o : Nat} {r : Rd} (h : RF o S r) (n : Nat) (h1 : 1 ≤ n) (h4 : n ≤ 4) :
    ACalls Try.prog 39 [.pointer (some ⟨o, 0, none⟩), .int .i64 (n : Int)] S (fun x S' => x = .int .u32 ((r.takeV n : Nat) : Int) ∧ ModO o S S' ∧ RF o S' (r.takeR n)) := by
  obtain ⟨ob, h⟩ := h
  exact (call39 h n h1 h4).mono fun x S' ⟨q1, q2, q3⟩ => ⟨q1, q2, ob, q3⟩
theorem ftake1 {S : St} {o : Nat} {r : Rd} (h : RF o S r) : ACalls Try.prog 39 [.pointer (some ⟨o, 0, none⟩), .int .i64 1] S (fun x S' => x = .int .u32 ((r.takeV 1 : Nat) : Int) ∧ ModO o S S' ∧ RF o S' (r.takeR 1)) := ftake h 1 (by omega) (by omega)
theorem ftake2 {S : St} {o : Nat} {r : Rd} (h : RF o S r) : ACalls Try.prog 39 [.pointer (some ⟨o, 0, none⟩), .int .i64 2] S (fun x S' => x = .int .u32 ((r.takeV 2 : Nat) : Int) ∧ ModO o S S' ∧ RF o S' (r.takeR 2)) := ftake h 2 (by omega) (by omega)
theorem ftake4 {S : St} {o : Nat} {r : Rd} (h : RF o S r) : ACalls Try.prog 39 [.pointer (some ⟨o, 0, none⟩), .int .i64 4] S (fun x S' => x = .int .u32 ((r.takeV 4 : Nat) : Int) ∧ ModO o S S' ∧ RF o S' (r.takeR 4)) := ftake h 4 (by omega) (by omega)
theorem ftext {S : St} {o : Nat} {r : Rd} (h : RF o S r) : ACalls Try.prog 40 [.pointer (some ⟨o, 0, none⟩)] S (fun x S' => SlB S' x r.textL ∧ ModO o S S' ∧ RF o S' r.textR) := by
  obtain ⟨ob, h⟩ := h
  exact (call40 h).mono fun x S' ⟨q1, q2, q3⟩ => ⟨q1, q2, ob, q3⟩
theorem fend {S : St} {o : Nat} {r : Rd} (h : RF o S r) : ACalls Try.prog 41 [.pointer (some ⟨o, 0, none⟩)] S (fun x S' => S' = S ∧ x = .string (trS r.endE)) := by
  obtain ⟨ob, h⟩ := h
  exact call41 h
theorem RF.ok {S : St} {o : Nat} {r : Rd} (h : RF o S r) : r.Ok := by
  obtain ⟨ob, h⟩ := h
  exact h.ok
theorem RF.row {S : St} {o : Nat} {r : Rd} (h : RF o S r) : ∃ ob, S[o]? = some (.row 88 true [.slice (some ⟨ob, 0, none⟩) r.bs.length 1, .int .i64 (r.at_ : Int), .string (errT r.err)]) := by
  obtain ⟨ob, h⟩ := h
  exact ⟨ob, h.row⟩
theorem RF.errZ {S : St} {o : Nat} {r : Rd} (h : RF o S r) : (errT r.err).size = 0 ↔ r.err = none := by
  obtain ⟨ob, h⟩ := h
  exact errT_size (r := r) h.sm.2
/-- At most one error. -/
def OneE (es : List (Int × Int)) : Prop := es = [] ∨ ∃ c a, es = [(c, a)] ∧ 1 ≤ c ∧ c ≤ 100 ∧ -1 ≤ a ∧ a ≤ 140737488355328
theorem oneE_thenE {a b : List (Int × Int)} (ha : OneE a) (hb : OneE b) : OneE (thenE a b) := by
  rcases ha with rfl | ⟨c, x, rfl, h⟩
  · exact hb
  · exact .inr ⟨c, x, rfl, h⟩
theorem oneE_chkM : ∀ (ms : List Msg) (i : Nat), i + ms.length ≤ 140737488355328 → OneE (chkM i ms)
  | [], _, _ => .inl rfl
  | m :: ms, i, h => by
    simp only [List.length_cons] at h
    simp only [chkM]
    split
    · exact .inr ⟨_, _, rfl, by omega⟩
    · split
      · exact .inr ⟨_, _, rfl, by omega⟩
      · exact oneE_chkM ms (i + 1) (by omega)
theorem oneE_chkR : ∀ (ms : List Rec) (i : Nat), i + ms.length ≤ 140737488355328 → OneE (chkR i ms)
  | [], _, _ => .inl rfl
  | m :: ms, i, h => by
    simp only [List.length_cons] at h
    simp only [chkR]
    split
    · exact .inr ⟨_, _, rfl, by omega⟩
    · exact oneE_chkR ms (i + 1) (by omega)
theorem oneE_chkE {f : Frm} (h1 : f.ms.length ≤ 140737488355328) (h2 : f.rs.length ≤ 140737488355328) : OneE (chkE f) := by
  unfold chkE
  split
  · exact .inr ⟨_, _, rfl, by omega⟩
  · split
    · exact .inr ⟨_, _, rfl, by omega⟩
    · refine oneE_thenE (oneE_chkM _ _ (by omega)) (oneE_thenE ?_ (oneE_chkR _ _ (by omega)))
      unfold chkC
      split
      · exact .inr ⟨_, _, rfl, by omega⟩
      · split
        · exact .inr ⟨_, _, rfl, by omega⟩
        · exact .inl rfl
theorem oneE_end {r : Rd} (h : r.Ok) (he : ∀ a, r.err = some a → a ≤ 140737488355328) : OneE r.endE := by
  unfold Rd.endE
  have := h.le
  have := h.len
  split
  · rename_i a ha
    exact .inr ⟨_, _, rfl, by have := he a ha; omega⟩
  · split
    · exact .inr ⟨_, _, rfl, by omega⟩
    · exact .inl rfl
theorem RF.oneEnd {S : St} {o : Nat} {r : Rd} (h : RF o S r) : OneE r.endE := by
  obtain ⟨ob, h⟩ := h
  exact oneE_end h.ok fun a ha => by have := h.sm.2 a ha; omega
theorem oneE_size {es : List (Int × Int)} (h : OneE es) : (trS es).size ≤ 1000 ∧ ((trS es).size = 0 ↔ es = []) := by
  rcases h with rfl | ⟨c, a, rfl, h1, h2, h3, h4⟩
  · exact ⟨by decide, ⟨fun _ => rfl, fun _ => rfl⟩⟩
  · have := atS_size c a (by omega) (by omega)
    rw [trS_one]
    exact ⟨by omega, ⟨fun h => absurd h (by omega), fun h => by cases h⟩⟩
theorem over_oneE {es : List (Int × Int)} (h : OneE es) (hne : es ≠ []) (at_ : Int) : overS 40 at_ (trS es) = trS ((40, at_) :: es) := by
  have hz := (oneE_size h).2
  rcases h with rfl | ⟨c, a, rfl, h1⟩
  · exact absurd rfl hne
  · unfold overS
    rw [if_neg (fun e => by have := hz.1 e; simp at this), trS_two, trS_one]

section
variable {R : St → Rd → Prop} {S S' : St} {o : Nat} {r : Rd} {o7 : Nat} {f : Frm} {vm vr : Value}
/-- A record of one's own is written. -/
theorem DecI.setR (hR : IsR o R) (h : DecI R S S' o r o7 f vm vr) {x : Nat} {cs cs' : List Value} (hx : S'[x]? = some (.row 81 true cs)) (hap : ∀ a n s, vr = .slice (some ⟨a, 0, none⟩) n s → a ≠ x) (hlo : S.length < x) : DecI R S (S'.set x (.row 81 true cs')) o r o7 f vm vr := by
  refine ⟨h.k.set (by omega) _, by rw [List.getElem?_set_ne (by omega)]; exact h.res, hR.same h.rd fun j ty rw cs hj h1 h2 h3 => ?_, ?_, ?_, ?_, h.lo, h.lo7⟩
  · rw [List.getElem?_set_ne (fun e => ?_)]
    · exact hj
    · subst e
      rw [hx] at hj
      cases hj
      exact h3 rfl
  · rw [List.getElem?_set_ne (fun e => ?_)]
    · exact h.fr
    · subst e
      rw [h.fr] at hx
      cases hx
  · exact h.ms.imp id fun ⟨a, ds, q1, q2⟩ => ⟨a, ds, q1, q2.modO (ModO.set _ _ _) hx (by decide) (by decide)⟩
  · refine h.rs.imp id fun ⟨a, q1, q2, q3⟩ => ⟨a, q1, q2, ?_⟩
    rw [List.getElem?_set_ne (Ne.symm (hap a _ _ q2))]
    exact q3
theorem DecI.ap (h : DecI R S S' o r o7 f vm vr) : ∀ a n s, vr = .slice (some ⟨a, 0, none⟩) n s → a ≠ S'.length := by
  intro a n s e
  rcases h.rs with ⟨q, _⟩ | ⟨b, q1, q2, q3⟩
  · rw [q] at e; cases e
  · rw [q2] at e
    cases e
    have := (List.getElem?_eq_some_iff.1 q3).1
    omega
theorem DecI.ne88 (h : DecI R S S' o r o7 f vm vr) {x : Nat} {cs : List Value} (hR : IsR o R) (hx : S'[x]? = some (.row 81 true cs)) : x ≠ o := by
  rintro rfl
  obtain ⟨ty, cs', h1, h2⟩ := hR.row h.rd
  rw [hx] at h1
  cases h1
  rcases h2 with h | h <;> cases h
end

/-- What the document's reading comes to. -/
def DocQ (S : St) (p : Frm × List (Int × Int)) (x : Value) (S' : St) : Prop :=
  Keeps S S' ∧ ∃ vm vr, x = .tuple #[frmV p.1 vm vr, .string (trS p.2)] ∧ FrAt S' p.1 vm vr
theorem bd34_1 (a : Int) : buildA TT 34 [(0, .int .u8 a)] = some (.agg #[.int .u8 a, .int .u32 0, .int .u8 0, .slice none 0 0, .int .u8 0, .int .u8 0, .int .u16 0, .int .u16 0, .slice none 0 0]) := by kernel_rfl
theorem bd81_1 (a : Int) : buildA TT 81 [(0, .int .u32 a)] = some (.agg #[.int .u32 a, .int .u8 0, .int .u8 0, .int .u8 0, .int .u8 0]) := by kernel_rfl
theorem bd88_1 (o n : Nat) : buildA TT 88 [(0, .slice (some ⟨o, 0, none⟩) n 1)] = some (.agg #[.slice (some ⟨o, 0, none⟩) n 1, .int .i64 0, .string ⟨#[]⟩]) := by kernel_rfl
theorem frm1 (f : Frm) (vm vr : Value) (x : Nat) : (frmC f vm vr).set 1 (.int .u32 (x : Int)) = frmC { f with rnd := x } vm vr := rfl
theorem frm2 (f : Frm) (vm vr : Value) (x : Nat) : (frmC f vm vr).set 2 (.int .u8 (x : Int)) = frmC { f with mem := x } vm vr := rfl
theorem frm4 (f : Frm) (vm vr : Value) (x : Nat) : (frmC f vm vr).set 4 (.int .u8 (x : Int)) = frmC { f with c := { f.c with kind := x } } vm vr := rfl
theorem frm5 (f : Frm) (vm vr : Value) (x : Nat) : (frmC f vm vr).set 5 (.int .u8 (x : Int)) = frmC { f with c := { f.c with key := x } } vm vr := rfl
theorem frm6 (f : Frm) (vm vr : Value) (x : Nat) : (frmC f vm vr).set 6 (.int .u16 (x : Int)) = frmC { f with c := { f.c with val := x } } vm vr := rfl
theorem frm7 (f : Frm) (vm vr : Value) (x : Nat) : (frmC f vm vr).set 7 (.int .u16 (x : Int)) = frmC { f with c := { f.c with old := x } } vm vr := rfl

theorem enter13 (cargs : Array Value) (w : World) : (callFunc 13 cargs).run Try.prog w = .ok (.enter 13 cargs) w := by kernel_rfl
set_option maxHeartbeats 4000000 in
theorem call13 {S : St} {v : Value} {l : List Nat} (hv : SlB S v l) (hl : IsBy l) (hln : l.length ≤ 10000) : ACalls Try.prog 13 [v] S (DocQ S (decF l)) := by
  generalize hP : decF l = P
  refine ACalls.of tok enter13 Try.func13 rfl (m := 143) rfl (by simp) (rs := [.cell 2 34, .tmp 3]) rfl fun hc ha => ?_
  clear ha
  refine AWp.seq_region tok fun K hK => ?_
  simp -implicitDefEqProofs only [vcT, wantedA, kp, kp2, kpS, kr, k1, k2, kL, kLP, kFn, kFn2, kSl, kSl2, kSl3, kC2, kP0, kP1, ev, evs, evParts, evO, Nat.reduceLT, Nat.reduceEqDiff, reduceIte, fr0, okConst, okc, appendA, cellsA, boxA, allocA, storeA, loadA, fieldA, indexA, fieldV, indexV, partA, extractA, nilA, binA, intBin, unA, lenA, isAggD, isConst, Nat.reduceAdd, Nat.reduceMul, Nat.reduceLeDiff, Nat.reduceSub, Nat.reduceBEq, splice, reduceCtorEq, Int.reduceEq, Int.reduceLT, Int.reduceLE, Int.reduceNeg, Int.reduceBEq, String.reduceEq, eqFlat, tf, aOpI]
  refine hK _ _ ?_
  clear hK
  have hk0 : Keeps S (S ++ [AObj.row 34 true (frmC zF (.slice none 0 0) (.slice none 0 0))]) := Keeps.append _ _
  have hr0 : (S ++ [AObj.row 34 true (frmC zF (.slice none 0 0) (.slice none 0 0))])[S.length]? = some (.row 34 true (frmC zF (.slice none 0 0) (.slice none 0 0))) := by simp
  have hl0 : (S ++ [AObj.row 34 true (frmC zF (.slice none 0 0) (.slice none 0 0))]).length = S.length + 1 := by simp
  show AWp _ _ _ _ _ _ (S ++ [AObj.row 34 true (frmC zF (.slice none 0 0) (.slice none 0 0))])
  generalize (S ++ [AObj.row 34 true (frmC zF (.slice none 0 0) (.slice none 0 0))]) = S0 at hk0 hr0 hl0 ⊢
  refine AWp.seq_region tok fun K hK => ?_
  refine aList_cut 1 fun K1 hK1 => ?_
  simp -implicitDefEqProofs only [vcT, wantedA, kp, kp2, kpS, kr, k1, k2, kL, kLP, kFn, kFn2, kSl, kSl2, kSl3, kC2, kP0, kP1, ev, evs, evParts, evO, Nat.reduceLT, Nat.reduceEqDiff, reduceIte, fr0, okConst, okc, appendA, cellsA, boxA, allocA, storeA, loadA, fieldA, indexA, fieldV, indexV, partA, extractA, nilA, binA, intBin, unA, lenA, isAggD, isConst, Nat.reduceAdd, Nat.reduceMul, Nat.reduceLeDiff, Nat.reduceSub, Nat.reduceBEq, splice, reduceCtorEq, Int.reduceEq, Int.reduceLT, Int.reduceLE, Int.reduceNeg, Int.reduceBEq, String.reduceEq, eqFlat, tf, aOpI]
  refine hK1 _ _ ?_
  clear hK1
  refine aList_cut 1 fun K1 hK1 => ?_
  simp -implicitDefEqProofs only [vcT, wantedA, kp, kp2, kpS, kr, k1, k2, kL, kLP, kFn, kFn2, kSl, kSl2, kSl3, kC2, kP0, kP1, ev, evs, evParts, evO, Nat.reduceLT, Nat.reduceEqDiff, reduceIte, fr0, okConst, okc, appendA, cellsA, boxA, allocA, storeA, loadA, fieldA, indexA, fieldV, indexV, partA, extractA, nilA, binA, intBin, unA, lenA, isAggD, isConst, Nat.reduceAdd, Nat.reduceMul, Nat.reduceLeDiff, Nat.reduceSub, Nat.reduceBEq, splice, reduceCtorEq, Int.reduceEq, Int.reduceLT, Int.reduceLE, Int.reduceNeg, Int.reduceBEq, String.reduceEq, eqFlat, tf, aOpI, Array.toList_empty, List.drop_succ_cons, List.drop_zero]
  refine (call36 (hv.keeps hk0) hl (by omega)).mono ?_
  rintro x S1 ⟨hk1, hx⟩
  have hr1 := hk1.get hr0
  have hks := hk0.trans hk1
  rcases hx with ⟨inn, u, hop, rfl, hu⟩ | ⟨hop, rfl⟩
  rotate_left
  · have e1 : decF l = (zF, [(40, -1), (6, -1)]) := by unfold decF; rw [hop]
    rw [e1] at hP
    subst hP
    refine hK1 _ _ ?_
    clear hK1
    simp -implicitDefEqProofs only [vcT, wantedA, kp, kp2, kpS, kr, k1, k2, kL, kLP, kFn, kFn2, kSl, kSl2, kSl3, kC2, kP0, kP1, ev, evs, evParts, evO, Nat.reduceLT, Nat.reduceEqDiff, reduceIte, fr0, okConst, okc, appendA, cellsA, boxA, allocA, storeA, loadA, fieldA, indexA, fieldV, indexV, partA, extractA, nilA, binA, intBin, unA, lenA, isAggD, isConst, Nat.reduceAdd, Nat.reduceMul, Nat.reduceLeDiff, Nat.reduceSub, Nat.reduceBEq, splice, reduceCtorEq, Int.reduceEq, Int.reduceLT, Int.reduceLE, Int.reduceNeg, Int.reduceBEq, String.reduceEq, eqFlat, tf, aOpI, List.drop_succ_cons, List.drop_zero]
    refine hK _ _ ?_
    clear hK
    refine AWp.seqK fun K0 hK0 => ?_
    refine AWp.seq_region tok fun K hK => ?_
    simp -implicitDefEqProofs only [vcT, wantedA, kp, kp2, kpS, kr, k1, k2, kL, kLP, kFn, kFn2, kSl, kSl2, kSl3, kC2, kP0, kP1, ev, evs, evParts, evO, Nat.reduceLT, Nat.reduceEqDiff, reduceIte, fr0, okConst, okc, appendA, cellsA, boxA, allocA, storeA, loadA, fieldA, indexA, fieldV, indexV, partA, extractA, nilA, binA, intBin, unA, lenA, isAggD, isConst, Nat.reduceAdd, Nat.reduceMul, Nat.reduceLeDiff, Nat.reduceSub, Nat.reduceBEq, splice, reduceCtorEq, Int.reduceEq, Int.reduceLT, Int.reduceLE, Int.reduceNeg, Int.reduceBEq, String.reduceEq, eqFlat, tf, aOpI]
    refine hK _ _ ?_
    clear hK
    refine AWp.condT (by simp -implicitDefEqProofs only [vcT, wantedA, kp, kp2, kpS, kr, k1, k2, kL, kLP, kFn, kFn2, kSl, kSl2, kSl3, kC2, kP0, kP1, ev, evs, evParts, evO, Nat.reduceLT, Nat.reduceEqDiff, reduceIte, fr0, okConst, okc, appendA, cellsA, boxA, allocA, storeA, loadA, fieldA, indexA, fieldV, indexV, partA, extractA, nilA, binA, intBin, unA, lenA, isAggD, isConst, Nat.reduceAdd, Nat.reduceMul, Nat.reduceLeDiff, Nat.reduceSub, Nat.reduceBEq, splice, reduceCtorEq, Int.reduceEq, Int.reduceLT, Int.reduceLE, Int.reduceNeg, Int.reduceBEq, String.reduceEq, eqFlat, tf, aOpI]) ?_
    refine AWp.seq_region tok fun K hK => ?_
    refine aList_cut 1 fun K1 hK1 => ?_
    simp -implicitDefEqProofs only [vcT, wantedA, kp, kp2, kpS, kr, k1, k2, kL, kLP, kFn, kFn2, kSl, kSl2, kSl3, kC2, kP0, kP1, ev, evs, evParts, evO, Nat.reduceLT, Nat.reduceEqDiff, reduceIte, fr0, okConst, okc, appendA, cellsA, boxA, allocA, storeA, loadA, fieldA, indexA, fieldV, indexV, partA, extractA, nilA, binA, intBin, unA, lenA, isAggD, isConst, Nat.reduceAdd, Nat.reduceMul, Nat.reduceLeDiff, Nat.reduceSub, Nat.reduceBEq, splice, reduceCtorEq, Int.reduceEq, Int.reduceLT, Int.reduceLE, Int.reduceNeg, Int.reduceBEq, String.reduceEq, eqFlat, tf, aOpI, bd34_0]
    refine hK1 _ _ ?_
    clear hK1
    refine aList_cut 1 fun K1 hK1 => ?_
    simp -implicitDefEqProofs only [vcT, wantedA, kp, kp2, kpS, kr, k1, k2, kL, kLP, kFn, kFn2, kSl, kSl2, kSl3, kC2, kP0, kP1, ev, evs, evParts, evO, Nat.reduceLT, Nat.reduceEqDiff, reduceIte, fr0, okConst, okc, appendA, cellsA, boxA, allocA, storeA, loadA, fieldA, indexA, fieldV, indexV, partA, extractA, nilA, binA, intBin, unA, lenA, isAggD, isConst, Nat.reduceAdd, Nat.reduceMul, Nat.reduceLeDiff, Nat.reduceSub, Nat.reduceBEq, splice, reduceCtorEq, Int.reduceEq, Int.reduceLT, Int.reduceLE, Int.reduceNeg, Int.reduceBEq, String.reduceEq, eqFlat, tf, aOpI, Array.toList_empty, List.drop_succ_cons, List.drop_zero]
    refine (call38 6 (-1) (by decide) (by decide) _).mono ?_
    rintro x S2 ⟨rfl, rfl⟩
    refine hK1 _ _ ?_
    clear hK1
    refine aList_cut 1 fun K1 hK1 => ?_
    simp -implicitDefEqProofs only [vcT, wantedA, kp, kp2, kpS, kr, k1, k2, kL, kLP, kFn, kFn2, kSl, kSl2, kSl3, kC2, kP0, kP1, ev, evs, evParts, evO, Nat.reduceLT, Nat.reduceEqDiff, reduceIte, fr0, okConst, okc, appendA, cellsA, boxA, allocA, storeA, loadA, fieldA, indexA, fieldV, indexV, partA, extractA, nilA, binA, intBin, unA, lenA, isAggD, isConst, Nat.reduceAdd, Nat.reduceMul, Nat.reduceLeDiff, Nat.reduceSub, Nat.reduceBEq, splice, reduceCtorEq, Int.reduceEq, Int.reduceLT, Int.reduceLE, Int.reduceNeg, Int.reduceBEq, String.reduceEq, eqFlat, tf, aOpI, Array.toList_empty, List.drop_succ_cons, List.drop_zero]
    refine (call37 40 (-1) (atS 6 (-1)) (by decide) (by decide) (by have := atS_size 6 (-1) (by decide) (by decide); omega) _).mono ?_
    rintro x S2 ⟨rfl, rfl⟩
    refine hK1 _ _ ?_
    clear hK1
    have hr2 := hr1
    have hl1 := (List.getElem?_eq_some_iff.1 hr1).1
    have hr3 : ∀ x, (S2.set S.length x)[S.length]? = some x := fun x => List.getElem?_set_self hl1
    simp only [frmC] at hr2
    simp only [frmV]
    simp -implicitDefEqProofs only [vcT, wantedA, kp, kp2, kpS, kr, k1, k2, kL, kLP, kFn, kFn2, kSl, kSl2, kSl3, kC2, kP0, kP1, ev, evs, evParts, evO, Nat.reduceLT, Nat.reduceEqDiff, reduceIte, fr0, okConst, okc, appendA, cellsA, boxA, allocA, storeA, loadA, fieldA, indexA, fieldV, indexV, partA, extractA, nilA, binA, intBin, unA, lenA, isAggD, isConst, Nat.reduceAdd, Nat.reduceMul, Nat.reduceLeDiff, Nat.reduceSub, Nat.reduceBEq, splice, reduceCtorEq, Int.reduceEq, Int.reduceLT, Int.reduceLE, Int.reduceNeg, Int.reduceBEq, String.reduceEq, eqFlat, tf, aOpI, hr2, ty34, List.drop_succ_cons, List.drop_zero]
    refine hK _ _ ?_
    clear hK
    refine AWp.ret ?_
    simp -implicitDefEqProofs only [vcT, wantedA, kp, kp2, kpS, kr, k1, k2, kL, kLP, kFn, kFn2, kSl, kSl2, kSl3, kC2, kP0, kP1, ev, evs, evParts, evO, Nat.reduceLT, Nat.reduceEqDiff, reduceIte, fr0, okConst, okc, appendA, cellsA, boxA, allocA, storeA, loadA, fieldA, indexA, fieldV, indexV, partA, extractA, nilA, binA, intBin, unA, lenA, isAggD, isConst, Nat.reduceAdd, Nat.reduceMul, Nat.reduceLeDiff, Nat.reduceSub, Nat.reduceBEq, splice, reduceCtorEq, Int.reduceEq, Int.reduceLT, Int.reduceLE, Int.reduceNeg, Int.reduceBEq, String.reduceEq, eqFlat, tf, aOpI, ThenA, BlockA, EndA, ressA, resA, wrapA, hr3, ty34]
    refine ⟨hks.set (Nat.le_refl _) _, _, _, ?_, zF_at _⟩
    have e2 := over_oneE (es := [(6, -1)]) (.inr ⟨6, -1, rfl, by omega⟩) (by simp) (-1)
    rw [trS_one] at e2
    rw [e2]
    rfl
  refine hK1 _ _ ?_
  clear hK1
  simp -implicitDefEqProofs only [vcT, wantedA, kp, kp2, kpS, kr, k1, k2, kL, kLP, kFn, kFn2, kSl, kSl2, kSl3, kC2, kP0, kP1, ev, evs, evParts, evO, Nat.reduceLT, Nat.reduceEqDiff, reduceIte, fr0, okConst, okc, appendA, cellsA, boxA, allocA, storeA, loadA, fieldA, indexA, fieldV, indexV, partA, extractA, nilA, binA, intBin, unA, lenA, isAggD, isConst, Nat.reduceAdd, Nat.reduceMul, Nat.reduceLeDiff, Nat.reduceSub, Nat.reduceBEq, splice, reduceCtorEq, Int.reduceEq, Int.reduceLT, Int.reduceLE, Int.reduceNeg, Int.reduceBEq, String.reduceEq, eqFlat, tf, aOpI, List.drop_succ_cons, List.drop_zero]
  refine hK _ _ ?_
  clear hK
  refine AWp.seqK fun K0 hK0 => ?_
  refine AWp.seq_region tok fun K hK => ?_
  simp -implicitDefEqProofs only [vcT, wantedA, kp, kp2, kpS, kr, k1, k2, kL, kLP, kFn, kFn2, kSl, kSl2, kSl3, kC2, kP0, kP1, ev, evs, evParts, evO, Nat.reduceLT, Nat.reduceEqDiff, reduceIte, fr0, okConst, okc, appendA, cellsA, boxA, allocA, storeA, loadA, fieldA, indexA, fieldV, indexV, partA, extractA, nilA, binA, intBin, unA, lenA, isAggD, isConst, Nat.reduceAdd, Nat.reduceMul, Nat.reduceLeDiff, Nat.reduceSub, Nat.reduceBEq, splice, reduceCtorEq, Int.reduceEq, Int.reduceLT, Int.reduceLE, Int.reduceNeg, Int.reduceBEq, String.reduceEq, eqFlat, tf, aOpI]
  refine hK _ _ ?_
  clear hK
  refine AWp.condF (by simp -implicitDefEqProofs only [vcT, wantedA, kp, kp2, kpS, kr, k1, k2, kL, kLP, kFn, kFn2, kSl, kSl2, kSl3, kC2, kP0, kP1, ev, evs, evParts, evO, Nat.reduceLT, Nat.reduceEqDiff, reduceIte, fr0, okConst, okc, appendA, cellsA, boxA, allocA, storeA, loadA, fieldA, indexA, fieldV, indexV, partA, extractA, nilA, binA, intBin, unA, lenA, isAggD, isConst, Nat.reduceAdd, Nat.reduceMul, Nat.reduceLeDiff, Nat.reduceSub, Nat.reduceBEq, splice, reduceCtorEq, Int.reduceEq, Int.reduceLT, Int.reduceLE, Int.reduceNeg, Int.reduceBEq, String.reduceEq, eqFlat, tf, aOpI]) ?_
  refine AWp.skip ?_
  refine hK0 _ _ ?_
  clear hK0
  have hib : IsBy inn ∧ inn.length ≤ 10000 := by
    unfold openB at hop
    split at hop
    · cases hop
    · split at hop
      · cases hop
        exact ⟨hl.take _, by simp; omega⟩
      · cases hop
  have hPd : P = decE (decB inn) := by rw [← hP]; unfold decF; rw [hop]
  clear hP hop
  obtain ⟨ob, _, rfl, hob⟩ := hu
  refine AWp.seq_region tok fun K hK => ?_
  simp -implicitDefEqProofs only [vcT, wantedA, kp, kp2, kpS, kr, k1, k2, kL, kLP, kFn, kFn2, kSl, kSl2, kSl3, kC2, kP0, kP1, ev, evs, evParts, evO, Nat.reduceLT, Nat.reduceEqDiff, reduceIte, fr0, okConst, okc, appendA, cellsA, boxA, allocA, storeA, loadA, fieldA, indexA, fieldV, indexV, partA, extractA, nilA, binA, intBin, unA, lenA, isAggD, isConst, Nat.reduceAdd, Nat.reduceMul, Nat.reduceLeDiff, Nat.reduceSub, Nat.reduceBEq, splice, reduceCtorEq, Int.reduceEq, Int.reduceLT, Int.reduceLE, Int.reduceNeg, Int.reduceBEq, String.reduceEq, eqFlat, tf, aOpI, bd88_1, ty88]
  refine hK _ _ ?_
  clear hK
  obtain ⟨o, ho⟩ : ∃ o, o = S1.length := ⟨_, rfl⟩
  have hi : PreI (RF o) S (S1 ++ [.row 88 true [.slice (some ⟨ob, 0, none⟩) inn.length 1, .int .i64 0, .string ⟨#[]⟩]]) o ⟨inn, 0, none⟩ :=
    ⟨hks.more _, at_old hr1 _, ⟨ob, by rw [ho]; simp; rfl, at_old hob _, ⟨Nat.zero_le _, hib.1, by have := hib.2; dsimp only; omega⟩, hib.2, fun a ha => by cases ha⟩, by have := (List.getElem?_eq_some_iff.1 hr1).1; omega⟩
  rw [← ho]
  generalize (S1 ++ [AObj.row 88 true [.slice (some ⟨ob, 0, none⟩) inn.length 1, .int .i64 0, .string ⟨#[]⟩]]) = S2 at hi ⊢
  clear ho hob hks hr1 hk1 hk0 hr0 hl0
  refine AWp.weak (Wk.fr (l := [(2, .pointer (some ⟨S.length, 0, none⟩)), (3, .string ⟨#[]⟩), (6, .pointer (some ⟨o, 0, none⟩))]) (by simp only [List.forall_mem_cons, vcT, wantedA, kp, kp2, kpS, kr, k1, k2, kL, kLP, kFn, kFn2, kSl, kSl2, kSl3, kC2, kP0, kP1, ev, evs, evParts, evO, Nat.reduceLT, Nat.reduceEqDiff, reduceIte, fr0, okConst, okc, appendA, cellsA, boxA, allocA, storeA, loadA, fieldA, indexA, fieldV, indexV, partA, extractA, nilA, binA, intBin, unA, lenA, isAggD, isConst, Nat.reduceAdd, Nat.reduceMul, Nat.reduceLeDiff, Nat.reduceSub, Nat.reduceBEq, splice, reduceCtorEq, Int.reduceEq, Int.reduceLT, Int.reduceLE, Int.reduceNeg, Int.reduceBEq, String.reduceEq, eqFlat, tf, aOpI, frL_cons]; simp)) ?_
  generalize hR0 : (⟨inn, 0, none⟩ : Rd) = r0 at *
  have w1 := wtake1 hi.rd.ok
  refine AWp.seq_region tok fun K hK => ?_
  refine aList_cut 1 fun K1 hK1 => ?_
  simp -implicitDefEqProofs only [vcT, wantedA, kp, kp2, kpS, kr, k1, k2, kL, kLP, kFn, kFn2, kSl, kSl2, kSl3, kC2, kP0, kP1, ev, evs, evParts, evO, Nat.reduceLT, Nat.reduceEqDiff, reduceIte, fr0, okConst, okc, appendA, cellsA, boxA, allocA, storeA, loadA, fieldA, indexA, fieldV, indexV, partA, extractA, nilA, binA, intBin, unA, lenA, isAggD, isConst, Nat.reduceAdd, Nat.reduceMul, Nat.reduceLeDiff, Nat.reduceSub, Nat.reduceBEq, splice, reduceCtorEq, Int.reduceEq, Int.reduceLT, Int.reduceLE, Int.reduceNeg, Int.reduceBEq, String.reduceEq, eqFlat, tf, aOpI, frL_cons]
  refine hK1 _ _ ?_
  clear hK1
  refine aList_cut 1 fun K1 hK1 => ?_
  simp -implicitDefEqProofs only [vcT, wantedA, kp, kp2, kpS, kr, k1, k2, kL, kLP, kFn, kFn2, kSl, kSl2, kSl3, kC2, kP0, kP1, ev, evs, evParts, evO, Nat.reduceLT, Nat.reduceEqDiff, reduceIte, fr0, okConst, okc, appendA, cellsA, boxA, allocA, storeA, loadA, fieldA, indexA, fieldV, indexV, partA, extractA, nilA, binA, intBin, unA, lenA, isAggD, isConst, Nat.reduceAdd, Nat.reduceMul, Nat.reduceLeDiff, Nat.reduceSub, Nat.reduceBEq, splice, reduceCtorEq, Int.reduceEq, Int.reduceLT, Int.reduceLE, Int.reduceNeg, Int.reduceBEq, String.reduceEq, eqFlat, tf, aOpI, Array.toList_empty, List.drop_succ_cons, List.drop_zero, frL_cons]
  refine (ftake1 hi.rd).mono ?_
  rintro x S4 ⟨rfl, hm, hr⟩
  replace hi := hi.read hm hr
  clear hm hr
  refine hK1 _ _ ?_
  clear hK1
  simp -implicitDefEqProofs only [vcT, wantedA, kp, kp2, kpS, kr, k1, k2, kL, kLP, kFn, kFn2, kSl, kSl2, kSl3, kC2, kP0, kP1, ev, evs, evParts, evO, Nat.reduceLT, Nat.reduceEqDiff, reduceIte, fr0, okConst, okc, appendA, cellsA, boxA, allocA, storeA, loadA, fieldA, indexA, fieldV, indexV, partA, extractA, nilA, binA, intBin, unA, lenA, isAggD, isConst, Nat.reduceAdd, Nat.reduceMul, Nat.reduceLeDiff, Nat.reduceSub, Nat.reduceBEq, splice, reduceCtorEq, Int.reduceEq, Int.reduceLT, Int.reduceLE, Int.reduceNeg, Int.reduceBEq, String.reduceEq, eqFlat, tf, aOpI, frL_cons, ty24, ty5, ty34, convA, w1, bd34_1, List.drop_succ_cons, List.drop_zero]
  refine hK _ _ ?_
  clear hK
  obtain ⟨f0, hf0⟩ : ∃ f0 : Frm, f0 = ⟨r0.takeV 1, 0, 0, [], ⟨0, 0, 0, 0⟩, []⟩ := ⟨_, rfl⟩
  have hhead : [Value.int IntKind.u8 ((r0.takeV 1 : Nat) : Int), .int .u32 0, .int .u8 0, .slice none 0 0, .int .u8 0, .int .u8 0, .int .u16 0, .int .u16 0, .slice none 0 0] = frmC f0 (.slice none 0 0) (.slice none 0 0) := by rw [hf0]; rfl
  rw [hhead]
  obtain ⟨o7, ho7⟩ : ∃ o7, o7 = S4.length := ⟨_, rfl⟩
  have hl4 := (List.getElem?_eq_some_iff.1 hi.res).1
  replace hi : DecI (RF o) S (S4 ++ [.row 34 true (frmC f0 (.slice none 0 0) (.slice none 0 0))]) o (r0.takeR 1) o7 f0 (.slice none 0 0) (.slice none 0 0) :=
    ⟨hi.k.more _, at_old hi.res _, (isRF o).same hi.rd (same4_append _ _), by rw [ho7]; simp, .inl ⟨rfl, by rw [hf0]⟩, .inl ⟨rfl, by rw [hf0]⟩, hi.lo, by omega⟩
  rw [← ho7]
  generalize (S4 ++ [AObj.row 34 true (frmC f0 (.slice none 0 0) (.slice none 0 0))]) = S4 at hi ⊢
  clear ho7 hl4 hhead w1
  refine AWp.weak (Wk.fr (l := [(2, .pointer (some ⟨S.length, 0, none⟩)), (3, .string ⟨#[]⟩), (6, .pointer (some ⟨o, 0, none⟩)), (7, .pointer (some ⟨o7, 0, none⟩))]) (by simp only [List.forall_mem_cons, vcT, wantedA, kp, kp2, kpS, kr, k1, k2, kL, kLP, kFn, kFn2, kSl, kSl2, kSl3, kC2, kP0, kP1, ev, evs, evParts, evO, Nat.reduceLT, Nat.reduceEqDiff, reduceIte, fr0, okConst, okc, appendA, cellsA, boxA, allocA, storeA, loadA, fieldA, indexA, fieldV, indexV, partA, extractA, nilA, binA, intBin, unA, lenA, isAggD, isConst, Nat.reduceAdd, Nat.reduceMul, Nat.reduceLeDiff, Nat.reduceSub, Nat.reduceBEq, splice, reduceCtorEq, Int.reduceEq, Int.reduceLT, Int.reduceLE, Int.reduceNeg, Int.reduceBEq, String.reduceEq, eqFlat, tf, aOpI, frL_cons]; simp)) ?_
  refine AWp.seq_region tok fun K hK => ?_
  refine aList_cut 1 fun K1 hK1 => ?_
  simp -implicitDefEqProofs only [vcT, wantedA, kp, kp2, kpS, kr, k1, k2, kL, kLP, kFn, kFn2, kSl, kSl2, kSl3, kC2, kP0, kP1, ev, evs, evParts, evO, Nat.reduceLT, Nat.reduceEqDiff, reduceIte, fr0, okConst, okc, appendA, cellsA, boxA, allocA, storeA, loadA, fieldA, indexA, fieldV, indexV, partA, extractA, nilA, binA, intBin, unA, lenA, isAggD, isConst, Nat.reduceAdd, Nat.reduceMul, Nat.reduceLeDiff, Nat.reduceSub, Nat.reduceBEq, splice, reduceCtorEq, Int.reduceEq, Int.reduceLT, Int.reduceLE, Int.reduceNeg, Int.reduceBEq, String.reduceEq, eqFlat, tf, aOpI, frL_cons]
  refine hK1 _ _ ?_
  clear hK1
  refine aList_cut 1 fun K1 hK1 => ?_
  simp -implicitDefEqProofs only [vcT, wantedA, kp, kp2, kpS, kr, k1, k2, kL, kLP, kFn, kFn2, kSl, kSl2, kSl3, kC2, kP0, kP1, ev, evs, evParts, evO, Nat.reduceLT, Nat.reduceEqDiff, reduceIte, fr0, okConst, okc, appendA, cellsA, boxA, allocA, storeA, loadA, fieldA, indexA, fieldV, indexV, partA, extractA, nilA, binA, intBin, unA, lenA, isAggD, isConst, Nat.reduceAdd, Nat.reduceMul, Nat.reduceLeDiff, Nat.reduceSub, Nat.reduceBEq, splice, reduceCtorEq, Int.reduceEq, Int.reduceLT, Int.reduceLE, Int.reduceNeg, Int.reduceBEq, String.reduceEq, eqFlat, tf, aOpI, Array.toList_empty, List.drop_succ_cons, List.drop_zero, frL_cons]
  refine (ftake4 hi.rd).mono ?_
  rintro x S4 ⟨rfl, hm, hr⟩
  replace hi := hi.read (isRF o) hm hr
  clear hm hr
  refine hK1 _ _ ?_
  clear hK1
  have hfr := hi.fr
  simp -implicitDefEqProofs only [vcT, wantedA, kp, kp2, kpS, kr, k1, k2, kL, kLP, kFn, kFn2, kSl, kSl2, kSl3, kC2, kP0, kP1, ev, evs, evParts, evO, Nat.reduceLT, Nat.reduceEqDiff, reduceIte, fr0, okConst, okc, appendA, cellsA, boxA, allocA, storeA, loadA, fieldA, indexA, fieldV, indexV, partA, extractA, nilA, binA, intBin, unA, lenA, isAggD, isConst, Nat.reduceAdd, Nat.reduceMul, Nat.reduceLeDiff, Nat.reduceSub, Nat.reduceBEq, splice, reduceCtorEq, Int.reduceEq, Int.reduceLT, Int.reduceLE, Int.reduceNeg, Int.reduceBEq, String.reduceEq, eqFlat, tf, aOpI, frL_cons, ty24, ty5, ty26, ty31, ty28, ty29, ty34, convA, hfr, frm1, frmC_len, List.drop_succ_cons, List.drop_zero]
  refine hK _ _ ?_
  clear hK
  replace hi := hi.put (isRF o) (f' := { f0 with rnd := (r0.takeR 1).takeV 4 }) hi.ms hi.rs
  show AWp _ _ _ _ _ _ (S4.set o7 (.row 34 true (frmC ({ f0 with rnd := (r0.takeR 1).takeV 4 }) (.slice none 0 0) (.slice none 0 0))))
  generalize (S4.set o7 (.row 34 true (frmC ({ f0 with rnd := (r0.takeR 1).takeV 4 }) (.slice none 0 0) (.slice none 0 0)))) = S4 at hi ⊢
  clear hfr
  refine AWp.weak (Wk.fr (l := [(2, .pointer (some ⟨S.length, 0, none⟩)), (3, .string ⟨#[]⟩), (6, .pointer (some ⟨o, 0, none⟩)), (7, .pointer (some ⟨o7, 0, none⟩))]) (by simp only [List.forall_mem_cons, vcT, wantedA, kp, kp2, kpS, kr, k1, k2, kL, kLP, kFn, kFn2, kSl, kSl2, kSl3, kC2, kP0, kP1, ev, evs, evParts, evO, Nat.reduceLT, Nat.reduceEqDiff, reduceIte, fr0, okConst, okc, appendA, cellsA, boxA, allocA, storeA, loadA, fieldA, indexA, fieldV, indexV, partA, extractA, nilA, binA, intBin, unA, lenA, isAggD, isConst, Nat.reduceAdd, Nat.reduceMul, Nat.reduceLeDiff, Nat.reduceSub, Nat.reduceBEq, splice, reduceCtorEq, Int.reduceEq, Int.reduceLT, Int.reduceLE, Int.reduceNeg, Int.reduceBEq, String.reduceEq, eqFlat, tf, aOpI, frL_cons]; simp)) ?_
  have w1 := wtake1 hi.rd.ok
  refine AWp.seq_region tok fun K hK => ?_
  refine aList_cut 1 fun K1 hK1 => ?_
  simp -implicitDefEqProofs only [vcT, wantedA, kp, kp2, kpS, kr, k1, k2, kL, kLP, kFn, kFn2, kSl, kSl2, kSl3, kC2, kP0, kP1, ev, evs, evParts, evO, Nat.reduceLT, Nat.reduceEqDiff, reduceIte, fr0, okConst, okc, appendA, cellsA, boxA, allocA, storeA, loadA, fieldA, indexA, fieldV, indexV, partA, extractA, nilA, binA, intBin, unA, lenA, isAggD, isConst, Nat.reduceAdd, Nat.reduceMul, Nat.reduceLeDiff, Nat.reduceSub, Nat.reduceBEq, splice, reduceCtorEq, Int.reduceEq, Int.reduceLT, Int.reduceLE, Int.reduceNeg, Int.reduceBEq, String.reduceEq, eqFlat, tf, aOpI, frL_cons]
  refine hK1 _ _ ?_
  clear hK1
  refine aList_cut 1 fun K1 hK1 => ?_
  simp -implicitDefEqProofs only [vcT, wantedA, kp, kp2, kpS, kr, k1, k2, kL, kLP, kFn, kFn2, kSl, kSl2, kSl3, kC2, kP0, kP1, ev, evs, evParts, evO, Nat.reduceLT, Nat.reduceEqDiff, reduceIte, fr0, okConst, okc, appendA, cellsA, boxA, allocA, storeA, loadA, fieldA, indexA, fieldV, indexV, partA, extractA, nilA, binA, intBin, unA, lenA, isAggD, isConst, Nat.reduceAdd, Nat.reduceMul, Nat.reduceLeDiff, Nat.reduceSub, Nat.reduceBEq, splice, reduceCtorEq, Int.reduceEq, Int.reduceLT, Int.reduceLE, Int.reduceNeg, Int.reduceBEq, String.reduceEq, eqFlat, tf, aOpI, Array.toList_empty, List.drop_succ_cons, List.drop_zero, frL_cons]
  refine (ftake1 hi.rd).mono ?_
  rintro x S4 ⟨rfl, hm, hr⟩
  replace hi := hi.read (isRF o) hm hr
  clear hm hr
  refine hK1 _ _ ?_
  clear hK1
  have hfr := hi.fr
  simp -implicitDefEqProofs only [vcT, wantedA, kp, kp2, kpS, kr, k1, k2, kL, kLP, kFn, kFn2, kSl, kSl2, kSl3, kC2, kP0, kP1, ev, evs, evParts, evO, Nat.reduceLT, Nat.reduceEqDiff, reduceIte, fr0, okConst, okc, appendA, cellsA, boxA, allocA, storeA, loadA, fieldA, indexA, fieldV, indexV, partA, extractA, nilA, binA, intBin, unA, lenA, isAggD, isConst, Nat.reduceAdd, Nat.reduceMul, Nat.reduceLeDiff, Nat.reduceSub, Nat.reduceBEq, splice, reduceCtorEq, Int.reduceEq, Int.reduceLT, Int.reduceLE, Int.reduceNeg, Int.reduceBEq, String.reduceEq, eqFlat, tf, aOpI, frL_cons, ty24, ty5, ty26, ty31, ty28, ty29, ty34, convA, w1, hfr, frm2, frmC_len, List.drop_succ_cons, List.drop_zero]
  refine hK _ _ ?_
  clear hK
  replace hi := hi.put (isRF o) (f' := { { f0 with rnd := (r0.takeR 1).takeV 4 } with mem := ((r0.takeR 1).takeR 4).takeV 1 }) hi.ms hi.rs
  show AWp _ _ _ _ _ _ (S4.set o7 (.row 34 true (frmC ({ { f0 with rnd := (r0.takeR 1).takeV 4 } with mem := ((r0.takeR 1).takeR 4).takeV 1 }) (.slice none 0 0) (.slice none 0 0))))
  generalize (S4.set o7 (.row 34 true (frmC ({ { f0 with rnd := (r0.takeR 1).takeV 4 } with mem := ((r0.takeR 1).takeR 4).takeV 1 }) (.slice none 0 0) (.slice none 0 0)))) = S4 at hi ⊢
  clear hfr
  refine AWp.weak (Wk.fr (l := [(2, .pointer (some ⟨S.length, 0, none⟩)), (3, .string ⟨#[]⟩), (6, .pointer (some ⟨o, 0, none⟩)), (7, .pointer (some ⟨o7, 0, none⟩))]) (by simp only [List.forall_mem_cons, vcT, wantedA, kp, kp2, kpS, kr, k1, k2, kL, kLP, kFn, kFn2, kSl, kSl2, kSl3, kC2, kP0, kP1, ev, evs, evParts, evO, Nat.reduceLT, Nat.reduceEqDiff, reduceIte, fr0, okConst, okc, appendA, cellsA, boxA, allocA, storeA, loadA, fieldA, indexA, fieldV, indexV, partA, extractA, nilA, binA, intBin, unA, lenA, isAggD, isConst, Nat.reduceAdd, Nat.reduceMul, Nat.reduceLeDiff, Nat.reduceSub, Nat.reduceBEq, splice, reduceCtorEq, Int.reduceEq, Int.reduceLT, Int.reduceLE, Int.reduceNeg, Int.reduceBEq, String.reduceEq, eqFlat, tf, aOpI, frL_cons]; simp)) ?_
  have hi' : DecI (RF o) S S4 o (rdHeadR r0) o7 (rdHead r0) (.slice none 0 0) (.slice none 0 0) := by subst hf0; exact hi
  replace hi := hi'
  clear hi' w1 hf0
  clear f0
  have hdec : decB inn = ({ rdHead r0 with ms := (rdMs (rdHeadR r0)).1, c := rdCmd (rdMs (rdHeadR r0)).2, rs := (rdRs (rdCmdR (rdMs (rdHeadR r0)).2)).1 }, (rdRs (rdCmdR (rdMs (rdHeadR r0)).2)).2) := by rw [← hR0]; rfl
  generalize hf0 : rdHead r0 = f0 at *
  have hf0m : f0.ms = [] := by rw [← hf0]; rfl
  have hf0r : f0.rs = [] := by rw [← hf0]; rfl
  clear hf0
  generalize rdHeadR r0 = r1 at *
  clear hR0
  have hn255 := takeV_lt hi.rd.ok (k := 1) (by omega)
  have w1 := wtakeI hi.rd.ok
  refine AWp.seq_region tok fun K hK => ?_
  refine aList_cut 1 fun K1 hK1 => ?_
  simp -implicitDefEqProofs only [vcT, wantedA, kp, kp2, kpS, kr, k1, k2, kL, kLP, kFn, kFn2, kSl, kSl2, kSl3, kC2, kP0, kP1, ev, evs, evParts, evO, Nat.reduceLT, Nat.reduceEqDiff, reduceIte, fr0, okConst, okc, appendA, cellsA, boxA, allocA, storeA, loadA, fieldA, indexA, fieldV, indexV, partA, extractA, nilA, binA, intBin, unA, lenA, isAggD, isConst, Nat.reduceAdd, Nat.reduceMul, Nat.reduceLeDiff, Nat.reduceSub, Nat.reduceBEq, splice, reduceCtorEq, Int.reduceEq, Int.reduceLT, Int.reduceLE, Int.reduceNeg, Int.reduceBEq, String.reduceEq, eqFlat, tf, aOpI, frL_cons]
  refine hK1 _ _ ?_
  clear hK1
  refine aList_cut 1 fun K1 hK1 => ?_
  simp -implicitDefEqProofs only [vcT, wantedA, kp, kp2, kpS, kr, k1, k2, kL, kLP, kFn, kFn2, kSl, kSl2, kSl3, kC2, kP0, kP1, ev, evs, evParts, evO, Nat.reduceLT, Nat.reduceEqDiff, reduceIte, fr0, okConst, okc, appendA, cellsA, boxA, allocA, storeA, loadA, fieldA, indexA, fieldV, indexV, partA, extractA, nilA, binA, intBin, unA, lenA, isAggD, isConst, Nat.reduceAdd, Nat.reduceMul, Nat.reduceLeDiff, Nat.reduceSub, Nat.reduceBEq, splice, reduceCtorEq, Int.reduceEq, Int.reduceLT, Int.reduceLE, Int.reduceNeg, Int.reduceBEq, String.reduceEq, eqFlat, tf, aOpI, Array.toList_empty, List.drop_succ_cons, List.drop_zero, frL_cons]
  refine (ftake1 hi.rd).mono ?_
  rintro x S4 ⟨rfl, hm, hr⟩
  replace hi := hi.read (isRF o) hm hr
  clear hm hr
  refine hK1 _ _ ?_
  clear hK1
  simp -implicitDefEqProofs only [vcT, wantedA, kp, kp2, kpS, kr, k1, k2, kL, kLP, kFn, kFn2, kSl, kSl2, kSl3, kC2, kP0, kP1, ev, evs, evParts, evO, Nat.reduceLT, Nat.reduceEqDiff, reduceIte, fr0, okConst, okc, appendA, cellsA, boxA, allocA, storeA, loadA, fieldA, indexA, fieldV, indexV, partA, extractA, nilA, binA, intBin, unA, lenA, isAggD, isConst, Nat.reduceAdd, Nat.reduceMul, Nat.reduceLeDiff, Nat.reduceSub, Nat.reduceBEq, splice, reduceCtorEq, Int.reduceEq, Int.reduceLT, Int.reduceLE, Int.reduceNeg, Int.reduceBEq, String.reduceEq, eqFlat, tf, aOpI, frL_cons, ty24, ty3, convA, w1, List.drop_succ_cons, List.drop_zero]
  refine hK _ _ ?_
  clear hK
  refine AWp.seqK fun K0 hK0 => ?_
  refine AWp.seq_region tok fun K hK => ?_
  simp -implicitDefEqProofs only [vcT, wantedA, kp, kp2, kpS, kr, k1, k2, kL, kLP, kFn, kFn2, kSl, kSl2, kSl3, kC2, kP0, kP1, ev, evs, evParts, evO, Nat.reduceLT, Nat.reduceEqDiff, reduceIte, fr0, okConst, okc, appendA, cellsA, boxA, allocA, storeA, loadA, fieldA, indexA, fieldV, indexV, partA, extractA, nilA, binA, intBin, unA, lenA, isAggD, isConst, Nat.reduceAdd, Nat.reduceMul, Nat.reduceLeDiff, Nat.reduceSub, Nat.reduceBEq, splice, reduceCtorEq, Int.reduceEq, Int.reduceLT, Int.reduceLE, Int.reduceNeg, Int.reduceBEq, String.reduceEq, eqFlat, tf, aOpI]
  refine hK _ _ ?_
  clear hK
  refine AWp.block ?_
  have hG : rdMs r1 = rdM (r1.takeV 1) (r1.takeR 1) [] := rfl
  generalize hGG : rdMs r1 = G at *
  generalize hN : r1.takeV 1 = N at *
  have hgo : ∀ (fr : Fr) (S2 : St) (r : Rd) (ms : List Msg) (vm : Value), DecI (RF o) S S2 o r o7 { f0 with ms := ms } vm (.slice none 0 0) → G = (ms, r) → ms.length ≤ 255 →
      fr 2 = .pointer (some ⟨S.length, 0, none⟩) → fr 3 = .string ⟨#[]⟩ → fr 6 = .pointer (some ⟨o, 0, none⟩) → fr 7 = .pointer (some ⟨o7, 0, none⟩) → K0 fr S2 := by
    intro fr S2 r ms vm hi hG' hml f2' f3' f6' f7'
    subst hG'
    refine hK0 _ _ ?_
    clear hK0
    refine AWp.weak (Wk.fr (l := [(2, .pointer (some ⟨S.length, 0, none⟩)), (3, .string ⟨#[]⟩), (6, .pointer (some ⟨o, 0, none⟩)), (7, .pointer (some ⟨o7, 0, none⟩))]) (by simp only [List.forall_mem_cons, f2', f3', f6', f7']; simp)) ?_
    clear f2' f3' f6' f7' fr
    dsimp only at hdec
    generalize hf1 : ({ f0 with ms := ms } : Frm) = f1 at *
    have hf1r : f1.rs = [] := by rw [← hf1]; exact hf0r
    have hf1m : f1.ms.length ≤ 255 := by rw [← hf1]; exact hml
    have hdec1 : decB inn = ({ f1 with c := rdCmd r, rs := (rdRs (rdCmdR r)).1 }, (rdRs (rdCmdR r)).2) := by rw [hdec, ← hf1]
    clear hdec hf1 hml hf0m hf0r
    clear hn255 w1 hG hGG hN
    have z1 := wtake1 hi.rd.ok
    refine AWp.seq_region tok fun K hK => ?_
    refine aList_cut 1 fun K1 hK1 => ?_
    simp -implicitDefEqProofs only [vcT, wantedA, kp, kp2, kpS, kr, k1, k2, kL, kLP, kFn, kFn2, kSl, kSl2, kSl3, kC2, kP0, kP1, ev, evs, evParts, evO, Nat.reduceLT, Nat.reduceEqDiff, reduceIte, fr0, okConst, okc, appendA, cellsA, boxA, allocA, storeA, loadA, fieldA, indexA, fieldV, indexV, partA, extractA, nilA, binA, intBin, unA, lenA, isAggD, isConst, Nat.reduceAdd, Nat.reduceMul, Nat.reduceLeDiff, Nat.reduceSub, Nat.reduceBEq, splice, reduceCtorEq, Int.reduceEq, Int.reduceLT, Int.reduceLE, Int.reduceNeg, Int.reduceBEq, String.reduceEq, eqFlat, tf, aOpI, frL_cons]
    refine hK1 _ _ ?_
    clear hK1
    refine aList_cut 1 fun K1 hK1 => ?_
    simp -implicitDefEqProofs only [vcT, wantedA, kp, kp2, kpS, kr, k1, k2, kL, kLP, kFn, kFn2, kSl, kSl2, kSl3, kC2, kP0, kP1, ev, evs, evParts, evO, Nat.reduceLT, Nat.reduceEqDiff, reduceIte, fr0, okConst, okc, appendA, cellsA, boxA, allocA, storeA, loadA, fieldA, indexA, fieldV, indexV, partA, extractA, nilA, binA, intBin, unA, lenA, isAggD, isConst, Nat.reduceAdd, Nat.reduceMul, Nat.reduceLeDiff, Nat.reduceSub, Nat.reduceBEq, splice, reduceCtorEq, Int.reduceEq, Int.reduceLT, Int.reduceLE, Int.reduceNeg, Int.reduceBEq, String.reduceEq, eqFlat, tf, aOpI, Array.toList_empty, List.drop_succ_cons, List.drop_zero, frL_cons]
    refine (ftake1 hi.rd).mono ?_
    rintro x S4 ⟨rfl, hm, hr⟩
    replace hi := hi.read (isRF o) hm hr
    clear hm hr
    refine hK1 _ _ ?_
    clear hK1
    have hfr := hi.fr
    simp -implicitDefEqProofs only [vcT, wantedA, kp, kp2, kpS, kr, k1, k2, kL, kLP, kFn, kFn2, kSl, kSl2, kSl3, kC2, kP0, kP1, ev, evs, evParts, evO, Nat.reduceLT, Nat.reduceEqDiff, reduceIte, fr0, okConst, okc, appendA, cellsA, boxA, allocA, storeA, loadA, fieldA, indexA, fieldV, indexV, partA, extractA, nilA, binA, intBin, unA, lenA, isAggD, isConst, Nat.reduceAdd, Nat.reduceMul, Nat.reduceLeDiff, Nat.reduceSub, Nat.reduceBEq, splice, reduceCtorEq, Int.reduceEq, Int.reduceLT, Int.reduceLE, Int.reduceNeg, Int.reduceBEq, String.reduceEq, eqFlat, tf, aOpI, frL_cons, ty24, ty5, ty26, ty31, ty28, ty29, ty34, convA, z1, hfr, frm4, frmC_len, List.drop_succ_cons, List.drop_zero]
    refine hK _ _ ?_
    clear hK
    replace hi := hi.put (isRF o) (f' := { f1 with c := { f1.c with kind := r.takeV 1 } }) hi.ms hi.rs
    show AWp _ _ _ _ _ _ (S4.set o7 (.row 34 true (frmC ({ f1 with c := { f1.c with kind := r.takeV 1 } }) vm (.slice none 0 0))))
    generalize (S4.set o7 (.row 34 true (frmC ({ f1 with c := { f1.c with kind := r.takeV 1 } }) vm (.slice none 0 0)))) = S4 at hi ⊢
    clear hfr
    refine AWp.weak (Wk.fr (l := [(2, .pointer (some ⟨S.length, 0, none⟩)), (3, .string ⟨#[]⟩), (6, .pointer (some ⟨o, 0, none⟩)), (7, .pointer (some ⟨o7, 0, none⟩))]) (by simp only [List.forall_mem_cons, vcT, wantedA, kp, kp2, kpS, kr, k1, k2, kL, kLP, kFn, kFn2, kSl, kSl2, kSl3, kC2, kP0, kP1, ev, evs, evParts, evO, Nat.reduceLT, Nat.reduceEqDiff, reduceIte, fr0, okConst, okc, appendA, cellsA, boxA, allocA, storeA, loadA, fieldA, indexA, fieldV, indexV, partA, extractA, nilA, binA, intBin, unA, lenA, isAggD, isConst, Nat.reduceAdd, Nat.reduceMul, Nat.reduceLeDiff, Nat.reduceSub, Nat.reduceBEq, splice, reduceCtorEq, Int.reduceEq, Int.reduceLT, Int.reduceLE, Int.reduceNeg, Int.reduceBEq, String.reduceEq, eqFlat, tf, aOpI, frL_cons]; simp)) ?_
    clear z1
    have z1 := wtake1 hi.rd.ok
    refine AWp.seq_region tok fun K hK => ?_
    refine aList_cut 1 fun K1 hK1 => ?_
    simp -implicitDefEqProofs only [vcT, wantedA, kp, kp2, kpS, kr, k1, k2, kL, kLP, kFn, kFn2, kSl, kSl2, kSl3, kC2, kP0, kP1, ev, evs, evParts, evO, Nat.reduceLT, Nat.reduceEqDiff, reduceIte, fr0, okConst, okc, appendA, cellsA, boxA, allocA, storeA, loadA, fieldA, indexA, fieldV, indexV, partA, extractA, nilA, binA, intBin, unA, lenA, isAggD, isConst, Nat.reduceAdd, Nat.reduceMul, Nat.reduceLeDiff, Nat.reduceSub, Nat.reduceBEq, splice, reduceCtorEq, Int.reduceEq, Int.reduceLT, Int.reduceLE, Int.reduceNeg, Int.reduceBEq, String.reduceEq, eqFlat, tf, aOpI, frL_cons]
    refine hK1 _ _ ?_
    clear hK1
    refine aList_cut 1 fun K1 hK1 => ?_
    simp -implicitDefEqProofs only [vcT, wantedA, kp, kp2, kpS, kr, k1, k2, kL, kLP, kFn, kFn2, kSl, kSl2, kSl3, kC2, kP0, kP1, ev, evs, evParts, evO, Nat.reduceLT, Nat.reduceEqDiff, reduceIte, fr0, okConst, okc, appendA, cellsA, boxA, allocA, storeA, loadA, fieldA, indexA, fieldV, indexV, partA, extractA, nilA, binA, intBin, unA, lenA, isAggD, isConst, Nat.reduceAdd, Nat.reduceMul, Nat.reduceLeDiff, Nat.reduceSub, Nat.reduceBEq, splice, reduceCtorEq, Int.reduceEq, Int.reduceLT, Int.reduceLE, Int.reduceNeg, Int.reduceBEq, String.reduceEq, eqFlat, tf, aOpI, Array.toList_empty, List.drop_succ_cons, List.drop_zero, frL_cons]
    refine (ftake1 hi.rd).mono ?_
    rintro x S4 ⟨rfl, hm, hr⟩
    replace hi := hi.read (isRF o) hm hr
    clear hm hr
    refine hK1 _ _ ?_
    clear hK1
    have hfr := hi.fr
    simp -implicitDefEqProofs only [vcT, wantedA, kp, kp2, kpS, kr, k1, k2, kL, kLP, kFn, kFn2, kSl, kSl2, kSl3, kC2, kP0, kP1, ev, evs, evParts, evO, Nat.reduceLT, Nat.reduceEqDiff, reduceIte, fr0, okConst, okc, appendA, cellsA, boxA, allocA, storeA, loadA, fieldA, indexA, fieldV, indexV, partA, extractA, nilA, binA, intBin, unA, lenA, isAggD, isConst, Nat.reduceAdd, Nat.reduceMul, Nat.reduceLeDiff, Nat.reduceSub, Nat.reduceBEq, splice, reduceCtorEq, Int.reduceEq, Int.reduceLT, Int.reduceLE, Int.reduceNeg, Int.reduceBEq, String.reduceEq, eqFlat, tf, aOpI, frL_cons, ty24, ty5, ty26, ty31, ty28, ty29, ty34, convA, z1, hfr, frm5, frmC_len, List.drop_succ_cons, List.drop_zero]
    refine hK _ _ ?_
    clear hK
    replace hi := hi.put (isRF o) (f' := { f1 with c := { f1.c with kind := r.takeV 1, key := (r.takeR 1).takeV 1 } }) hi.ms hi.rs
    show AWp _ _ _ _ _ _ (S4.set o7 (.row 34 true (frmC ({ f1 with c := { f1.c with kind := r.takeV 1, key := (r.takeR 1).takeV 1 } }) vm (.slice none 0 0))))
    generalize (S4.set o7 (.row 34 true (frmC ({ f1 with c := { f1.c with kind := r.takeV 1, key := (r.takeR 1).takeV 1 } }) vm (.slice none 0 0)))) = S4 at hi ⊢
    clear hfr
    refine AWp.weak (Wk.fr (l := [(2, .pointer (some ⟨S.length, 0, none⟩)), (3, .string ⟨#[]⟩), (6, .pointer (some ⟨o, 0, none⟩)), (7, .pointer (some ⟨o7, 0, none⟩))]) (by simp only [List.forall_mem_cons, vcT, wantedA, kp, kp2, kpS, kr, k1, k2, kL, kLP, kFn, kFn2, kSl, kSl2, kSl3, kC2, kP0, kP1, ev, evs, evParts, evO, Nat.reduceLT, Nat.reduceEqDiff, reduceIte, fr0, okConst, okc, appendA, cellsA, boxA, allocA, storeA, loadA, fieldA, indexA, fieldV, indexV, partA, extractA, nilA, binA, intBin, unA, lenA, isAggD, isConst, Nat.reduceAdd, Nat.reduceMul, Nat.reduceLeDiff, Nat.reduceSub, Nat.reduceBEq, splice, reduceCtorEq, Int.reduceEq, Int.reduceLT, Int.reduceLE, Int.reduceNeg, Int.reduceBEq, String.reduceEq, eqFlat, tf, aOpI, frL_cons]; simp)) ?_
    clear z1
    have z1 := wtake2 hi.rd.ok
    refine AWp.seq_region tok fun K hK => ?_
    refine aList_cut 1 fun K1 hK1 => ?_
    simp -implicitDefEqProofs only [vcT, wantedA, kp, kp2, kpS, kr, k1, k2, kL, kLP, kFn, kFn2, kSl, kSl2, kSl3, kC2, kP0, kP1, ev, evs, evParts, evO, Nat.reduceLT, Nat.reduceEqDiff, reduceIte, fr0, okConst, okc, appendA, cellsA, boxA, allocA, storeA, loadA, fieldA, indexA, fieldV, indexV, partA, extractA, nilA, binA, intBin, unA, lenA, isAggD, isConst, Nat.reduceAdd, Nat.reduceMul, Nat.reduceLeDiff, Nat.reduceSub, Nat.reduceBEq, splice, reduceCtorEq, Int.reduceEq, Int.reduceLT, Int.reduceLE, Int.reduceNeg, Int.reduceBEq, String.reduceEq, eqFlat, tf, aOpI, frL_cons]
    refine hK1 _ _ ?_
    clear hK1
    refine aList_cut 1 fun K1 hK1 => ?_
    simp -implicitDefEqProofs only [vcT, wantedA, kp, kp2, kpS, kr, k1, k2, kL, kLP, kFn, kFn2, kSl, kSl2, kSl3, kC2, kP0, kP1, ev, evs, evParts, evO, Nat.reduceLT, Nat.reduceEqDiff, reduceIte, fr0, okConst, okc, appendA, cellsA, boxA, allocA, storeA, loadA, fieldA, indexA, fieldV, indexV, partA, extractA, nilA, binA, intBin, unA, lenA, isAggD, isConst, Nat.reduceAdd, Nat.reduceMul, Nat.reduceLeDiff, Nat.reduceSub, Nat.reduceBEq, splice, reduceCtorEq, Int.reduceEq, Int.reduceLT, Int.reduceLE, Int.reduceNeg, Int.reduceBEq, String.reduceEq, eqFlat, tf, aOpI, Array.toList_empty, List.drop_succ_cons, List.drop_zero, frL_cons]
    refine (ftake2 hi.rd).mono ?_
    rintro x S4 ⟨rfl, hm, hr⟩
    replace hi := hi.read (isRF o) hm hr
    clear hm hr
    refine hK1 _ _ ?_
    clear hK1
    have hfr := hi.fr
    simp -implicitDefEqProofs only [vcT, wantedA, kp, kp2, kpS, kr, k1, k2, kL, kLP, kFn, kFn2, kSl, kSl2, kSl3, kC2, kP0, kP1, ev, evs, evParts, evO, Nat.reduceLT, Nat.reduceEqDiff, reduceIte, fr0, okConst, okc, appendA, cellsA, boxA, allocA, storeA, loadA, fieldA, indexA, fieldV, indexV, partA, extractA, nilA, binA, intBin, unA, lenA, isAggD, isConst, Nat.reduceAdd, Nat.reduceMul, Nat.reduceLeDiff, Nat.reduceSub, Nat.reduceBEq, splice, reduceCtorEq, Int.reduceEq, Int.reduceLT, Int.reduceLE, Int.reduceNeg, Int.reduceBEq, String.reduceEq, eqFlat, tf, aOpI, frL_cons, ty24, ty5, ty26, ty31, ty28, ty29, ty34, convA, z1, hfr, frm6, frmC_len, List.drop_succ_cons, List.drop_zero]
    refine hK _ _ ?_
    clear hK
    replace hi := hi.put (isRF o) (f' := { f1 with c := { f1.c with kind := r.takeV 1, key := (r.takeR 1).takeV 1, val := ((r.takeR 1).takeR 1).takeV 2 } }) hi.ms hi.rs
    show AWp _ _ _ _ _ _ (S4.set o7 (.row 34 true (frmC ({ f1 with c := { f1.c with kind := r.takeV 1, key := (r.takeR 1).takeV 1, val := ((r.takeR 1).takeR 1).takeV 2 } }) vm (.slice none 0 0))))
    generalize (S4.set o7 (.row 34 true (frmC ({ f1 with c := { f1.c with kind := r.takeV 1, key := (r.takeR 1).takeV 1, val := ((r.takeR 1).takeR 1).takeV 2 } }) vm (.slice none 0 0)))) = S4 at hi ⊢
    clear hfr
    refine AWp.weak (Wk.fr (l := [(2, .pointer (some ⟨S.length, 0, none⟩)), (3, .string ⟨#[]⟩), (6, .pointer (some ⟨o, 0, none⟩)), (7, .pointer (some ⟨o7, 0, none⟩))]) (by simp only [List.forall_mem_cons, vcT, wantedA, kp, kp2, kpS, kr, k1, k2, kL, kLP, kFn, kFn2, kSl, kSl2, kSl3, kC2, kP0, kP1, ev, evs, evParts, evO, Nat.reduceLT, Nat.reduceEqDiff, reduceIte, fr0, okConst, okc, appendA, cellsA, boxA, allocA, storeA, loadA, fieldA, indexA, fieldV, indexV, partA, extractA, nilA, binA, intBin, unA, lenA, isAggD, isConst, Nat.reduceAdd, Nat.reduceMul, Nat.reduceLeDiff, Nat.reduceSub, Nat.reduceBEq, splice, reduceCtorEq, Int.reduceEq, Int.reduceLT, Int.reduceLE, Int.reduceNeg, Int.reduceBEq, String.reduceEq, eqFlat, tf, aOpI, frL_cons]; simp)) ?_
    clear z1
    have z1 := wtake2 hi.rd.ok
    refine AWp.seq_region tok fun K hK => ?_
    refine aList_cut 1 fun K1 hK1 => ?_
    simp -implicitDefEqProofs only [vcT, wantedA, kp, kp2, kpS, kr, k1, k2, kL, kLP, kFn, kFn2, kSl, kSl2, kSl3, kC2, kP0, kP1, ev, evs, evParts, evO, Nat.reduceLT, Nat.reduceEqDiff, reduceIte, fr0, okConst, okc, appendA, cellsA, boxA, allocA, storeA, loadA, fieldA, indexA, fieldV, indexV, partA, extractA, nilA, binA, intBin, unA, lenA, isAggD, isConst, Nat.reduceAdd, Nat.reduceMul, Nat.reduceLeDiff, Nat.reduceSub, Nat.reduceBEq, splice, reduceCtorEq, Int.reduceEq, Int.reduceLT, Int.reduceLE, Int.reduceNeg, Int.reduceBEq, String.reduceEq, eqFlat, tf, aOpI, frL_cons]
    refine hK1 _ _ ?_
    clear hK1
    refine aList_cut 1 fun K1 hK1 => ?_
    simp -implicitDefEqProofs only [vcT, wantedA, kp, kp2, kpS, kr, k1, k2, kL, kLP, kFn, kFn2, kSl, kSl2, kSl3, kC2, kP0, kP1, ev, evs, evParts, evO, Nat.reduceLT, Nat.reduceEqDiff, reduceIte, fr0, okConst, okc, appendA, cellsA, boxA, allocA, storeA, loadA, fieldA, indexA, fieldV, indexV, partA, extractA, nilA, binA, intBin, unA, lenA, isAggD, isConst, Nat.reduceAdd, Nat.reduceMul, Nat.reduceLeDiff, Nat.reduceSub, Nat.reduceBEq, splice, reduceCtorEq, Int.reduceEq, Int.reduceLT, Int.reduceLE, Int.reduceNeg, Int.reduceBEq, String.reduceEq, eqFlat, tf, aOpI, Array.toList_empty, List.drop_succ_cons, List.drop_zero, frL_cons]
    refine (ftake2 hi.rd).mono ?_
    rintro x S4 ⟨rfl, hm, hr⟩
    replace hi := hi.read (isRF o) hm hr
    clear hm hr
    refine hK1 _ _ ?_
    clear hK1
    have hfr := hi.fr
    simp -implicitDefEqProofs only [vcT, wantedA, kp, kp2, kpS, kr, k1, k2, kL, kLP, kFn, kFn2, kSl, kSl2, kSl3, kC2, kP0, kP1, ev, evs, evParts, evO, Nat.reduceLT, Nat.reduceEqDiff, reduceIte, fr0, okConst, okc, appendA, cellsA, boxA, allocA, storeA, loadA, fieldA, indexA, fieldV, indexV, partA, extractA, nilA, binA, intBin, unA, lenA, isAggD, isConst, Nat.reduceAdd, Nat.reduceMul, Nat.reduceLeDiff, Nat.reduceSub, Nat.reduceBEq, splice, reduceCtorEq, Int.reduceEq, Int.reduceLT, Int.reduceLE, Int.reduceNeg, Int.reduceBEq, String.reduceEq, eqFlat, tf, aOpI, frL_cons, ty24, ty5, ty26, ty31, ty28, ty29, ty34, convA, z1, hfr, frm7, frmC_len, List.drop_succ_cons, List.drop_zero]
    refine hK _ _ ?_
    clear hK
    replace hi := hi.put (isRF o) (f' := { f1 with c := rdCmd r }) hi.ms hi.rs
    show AWp _ _ _ _ _ _ (S4.set o7 (.row 34 true (frmC ({ f1 with c := rdCmd r }) vm (.slice none 0 0))))
    generalize (S4.set o7 (.row 34 true (frmC ({ f1 with c := rdCmd r }) vm (.slice none 0 0)))) = S4 at hi ⊢
    clear hfr
    refine AWp.weak (Wk.fr (l := [(2, .pointer (some ⟨S.length, 0, none⟩)), (3, .string ⟨#[]⟩), (6, .pointer (some ⟨o, 0, none⟩)), (7, .pointer (some ⟨o7, 0, none⟩))]) (by simp only [List.forall_mem_cons, vcT, wantedA, kp, kp2, kpS, kr, k1, k2, kL, kLP, kFn, kFn2, kSl, kSl2, kSl3, kC2, kP0, kP1, ev, evs, evParts, evO, Nat.reduceLT, Nat.reduceEqDiff, reduceIte, fr0, okConst, okc, appendA, cellsA, boxA, allocA, storeA, loadA, fieldA, indexA, fieldV, indexV, partA, extractA, nilA, binA, intBin, unA, lenA, isAggD, isConst, Nat.reduceAdd, Nat.reduceMul, Nat.reduceLeDiff, Nat.reduceSub, Nat.reduceBEq, splice, reduceCtorEq, Int.reduceEq, Int.reduceLT, Int.reduceLE, Int.reduceNeg, Int.reduceBEq, String.reduceEq, eqFlat, tf, aOpI, frL_cons]; simp)) ?_
    clear z1
    have hi' : DecI (RF o) S S4 o (rdCmdR r) o7 { f1 with c := rdCmd r } vm (.slice none 0 0) := hi
    replace hi := hi'
    clear hi'
    generalize hf2 : ({ f1 with c := rdCmd r } : Frm) = f2 at *
    have hf2r : f2.rs = [] := by rw [← hf2]; exact hf1r
    have hf2m : f2.ms.length ≤ 255 := by rw [← hf2]; exact hf1m
    have hdec2 : decB inn = ({ f2 with rs := (rdRs (rdCmdR r)).1 }, (rdRs (rdCmdR r)).2) := by rw [hdec1, ← hf2]
    clear hdec1 hf2 hf1r hf1m
    generalize rdCmdR r = r1 at *
    have hn255 := takeV_lt hi.rd.ok (k := 1) (by omega)
    have w1 := wtakeI hi.rd.ok
    refine AWp.seq_region tok fun K hK => ?_
    refine aList_cut 1 fun K1 hK1 => ?_
    simp -implicitDefEqProofs only [vcT, wantedA, kp, kp2, kpS, kr, k1, k2, kL, kLP, kFn, kFn2, kSl, kSl2, kSl3, kC2, kP0, kP1, ev, evs, evParts, evO, Nat.reduceLT, Nat.reduceEqDiff, reduceIte, fr0, okConst, okc, appendA, cellsA, boxA, allocA, storeA, loadA, fieldA, indexA, fieldV, indexV, partA, extractA, nilA, binA, intBin, unA, lenA, isAggD, isConst, Nat.reduceAdd, Nat.reduceMul, Nat.reduceLeDiff, Nat.reduceSub, Nat.reduceBEq, splice, reduceCtorEq, Int.reduceEq, Int.reduceLT, Int.reduceLE, Int.reduceNeg, Int.reduceBEq, String.reduceEq, eqFlat, tf, aOpI, frL_cons]
    refine hK1 _ _ ?_
    clear hK1
    refine aList_cut 1 fun K1 hK1 => ?_
    simp -implicitDefEqProofs only [vcT, wantedA, kp, kp2, kpS, kr, k1, k2, kL, kLP, kFn, kFn2, kSl, kSl2, kSl3, kC2, kP0, kP1, ev, evs, evParts, evO, Nat.reduceLT, Nat.reduceEqDiff, reduceIte, fr0, okConst, okc, appendA, cellsA, boxA, allocA, storeA, loadA, fieldA, indexA, fieldV, indexV, partA, extractA, nilA, binA, intBin, unA, lenA, isAggD, isConst, Nat.reduceAdd, Nat.reduceMul, Nat.reduceLeDiff, Nat.reduceSub, Nat.reduceBEq, splice, reduceCtorEq, Int.reduceEq, Int.reduceLT, Int.reduceLE, Int.reduceNeg, Int.reduceBEq, String.reduceEq, eqFlat, tf, aOpI, Array.toList_empty, List.drop_succ_cons, List.drop_zero, frL_cons]
    refine (ftake1 hi.rd).mono ?_
    rintro x S4 ⟨rfl, hm, hr⟩
    replace hi := hi.read (isRF o) hm hr
    clear hm hr
    refine hK1 _ _ ?_
    clear hK1
    simp -implicitDefEqProofs only [vcT, wantedA, kp, kp2, kpS, kr, k1, k2, kL, kLP, kFn, kFn2, kSl, kSl2, kSl3, kC2, kP0, kP1, ev, evs, evParts, evO, Nat.reduceLT, Nat.reduceEqDiff, reduceIte, fr0, okConst, okc, appendA, cellsA, boxA, allocA, storeA, loadA, fieldA, indexA, fieldV, indexV, partA, extractA, nilA, binA, intBin, unA, lenA, isAggD, isConst, Nat.reduceAdd, Nat.reduceMul, Nat.reduceLeDiff, Nat.reduceSub, Nat.reduceBEq, splice, reduceCtorEq, Int.reduceEq, Int.reduceLT, Int.reduceLE, Int.reduceNeg, Int.reduceBEq, String.reduceEq, eqFlat, tf, aOpI, frL_cons, ty24, ty3, convA, w1, List.drop_succ_cons, List.drop_zero]
    refine hK _ _ ?_
    clear hK
    refine AWp.seqK fun K0 hK0 => ?_
    refine AWp.seq_region tok fun K hK => ?_
    simp -implicitDefEqProofs only [vcT, wantedA, kp, kp2, kpS, kr, k1, k2, kL, kLP, kFn, kFn2, kSl, kSl2, kSl3, kC2, kP0, kP1, ev, evs, evParts, evO, Nat.reduceLT, Nat.reduceEqDiff, reduceIte, fr0, okConst, okc, appendA, cellsA, boxA, allocA, storeA, loadA, fieldA, indexA, fieldV, indexV, partA, extractA, nilA, binA, intBin, unA, lenA, isAggD, isConst, Nat.reduceAdd, Nat.reduceMul, Nat.reduceLeDiff, Nat.reduceSub, Nat.reduceBEq, splice, reduceCtorEq, Int.reduceEq, Int.reduceLT, Int.reduceLE, Int.reduceNeg, Int.reduceBEq, String.reduceEq, eqFlat, tf, aOpI]
    refine hK _ _ ?_
    clear hK
    refine AWp.block ?_
    have hG : rdRs r1 = rdR (r1.takeV 1) (r1.takeR 1) [] := rfl
    generalize hGG : rdRs r1 = G at *
    generalize hN : r1.takeV 1 = N at *
    have hgo : ∀ (fr : Fr) (S2 : St) (r : Rd) (rs : List Rec) (vr : Value), DecI (RF o) S S2 o r o7 { f2 with rs := rs } vm vr → G = (rs, r) → rs.length ≤ 255 →
        fr 2 = .pointer (some ⟨S.length, 0, none⟩) → fr 3 = .string ⟨#[]⟩ → fr 6 = .pointer (some ⟨o, 0, none⟩) → fr 7 = .pointer (some ⟨o7, 0, none⟩) → K0 fr S2 := by
      intro fr S2 r rs vr hi hG' hrl f2' f3' f6' f7'
      subst hG'
      refine hK0 _ _ ?_
      clear hK0
      refine AWp.weak (Wk.fr (l := [(2, .pointer (some ⟨S.length, 0, none⟩)), (3, .string ⟨#[]⟩), (6, .pointer (some ⟨o, 0, none⟩)), (7, .pointer (some ⟨o7, 0, none⟩))]) (by simp only [List.forall_mem_cons, f2', f3', f6', f7']; simp)) ?_
      clear f2' f3' f6' f7' fr
      dsimp only at hdec2
      generalize hf3 : ({ f2 with rs := rs } : Frm) = f3 at *
      have hml : f3.ms.length ≤ 1000 := by rw [← hf3]; dsimp only; omega
      have hrl' : f3.rs.length ≤ 1000 := by rw [← hf3]; dsimp only; omega
      rw [hdec2] at hPd
      clear hf3 hrl hf2r hf2m hdec2 hn255 w1 hG hGG hN
      have h1E := hi.rd.oneEnd
      have h1C := oneE_chkE (f := f3) (by omega) (by omega)
      have h1T := oneE_thenE h1E h1C
      refine AWp.seq_region tok fun K hK => ?_
      refine aList_cut 1 fun K1 hK1 => ?_
      simp -implicitDefEqProofs only [vcT, wantedA, kp, kp2, kpS, kr, k1, k2, kL, kLP, kFn, kFn2, kSl, kSl2, kSl3, kC2, kP0, kP1, ev, evs, evParts, evO, Nat.reduceLT, Nat.reduceEqDiff, reduceIte, fr0, okConst, okc, appendA, cellsA, boxA, allocA, storeA, loadA, fieldA, indexA, fieldV, indexV, partA, extractA, nilA, binA, intBin, unA, lenA, isAggD, isConst, Nat.reduceAdd, Nat.reduceMul, Nat.reduceLeDiff, Nat.reduceSub, Nat.reduceBEq, splice, reduceCtorEq, Int.reduceEq, Int.reduceLT, Int.reduceLE, Int.reduceNeg, Int.reduceBEq, String.reduceEq, eqFlat, tf, aOpI, frL_cons]
      refine hK1 _ _ ?_
      clear hK1
      refine aList_cut 1 fun K1 hK1 => ?_
      simp -implicitDefEqProofs only [vcT, wantedA, kp, kp2, kpS, kr, k1, k2, kL, kLP, kFn, kFn2, kSl, kSl2, kSl3, kC2, kP0, kP1, ev, evs, evParts, evO, Nat.reduceLT, Nat.reduceEqDiff, reduceIte, fr0, okConst, okc, appendA, cellsA, boxA, allocA, storeA, loadA, fieldA, indexA, fieldV, indexV, partA, extractA, nilA, binA, intBin, unA, lenA, isAggD, isConst, Nat.reduceAdd, Nat.reduceMul, Nat.reduceLeDiff, Nat.reduceSub, Nat.reduceBEq, splice, reduceCtorEq, Int.reduceEq, Int.reduceLT, Int.reduceLE, Int.reduceNeg, Int.reduceBEq, String.reduceEq, eqFlat, tf, aOpI, Array.toList_empty, List.drop_succ_cons, List.drop_zero, frL_cons]
      refine (fend hi.rd).mono ?_
      rintro x S4 ⟨rfl, rfl⟩
      refine hK1 _ _ ?_
      clear hK1
      simp -implicitDefEqProofs only [vcT, wantedA, kp, kp2, kpS, kr, k1, k2, kL, kLP, kFn, kFn2, kSl, kSl2, kSl3, kC2, kP0, kP1, ev, evs, evParts, evO, Nat.reduceLT, Nat.reduceEqDiff, reduceIte, fr0, okConst, okc, appendA, cellsA, boxA, allocA, storeA, loadA, fieldA, indexA, fieldV, indexV, partA, extractA, nilA, binA, intBin, unA, lenA, isAggD, isConst, Nat.reduceAdd, Nat.reduceMul, Nat.reduceLeDiff, Nat.reduceSub, Nat.reduceBEq, splice, reduceCtorEq, Int.reduceEq, Int.reduceLT, Int.reduceLE, Int.reduceNeg, Int.reduceBEq, String.reduceEq, eqFlat, tf, aOpI, frL_cons, List.drop_succ_cons, List.drop_zero]
      refine hK _ _ ?_
      clear hK
      refine AWp.seqK fun K1 hK1 => ?_
      have hend : ∀ (fr : Fr), fr 2 = .pointer (some ⟨S.length, 0, none⟩) → fr 6 = .pointer (some ⟨o, 0, none⟩) → fr 7 = .pointer (some ⟨o7, 0, none⟩) → fr 13 = .string (trS (thenE r.endE (chkE f3))) → K1 fr S4 := by
        intro fr f2' f6' f7' f13
        refine hK1 _ _ ?_
        clear hK1
        have hres := hi.res
        have hl5 := (List.getElem?_eq_some_iff.1 hres).1
        have hr3 : ∀ x, (S4.set S.length x)[S.length]? = some x := fun x => List.getElem?_set_self hl5
        have hone := hi.ms.one
        have hone2 := hi.rs.one
        have hsz := oneE_size h1T
        refine AWp.seqK fun K2 hK2 => ?_
        by_cases hes : thenE r.endE (chkE f3) = []
        · have hz : (trS (thenE r.endE (chkE f3))).size = 0 := hsz.2.2 hes
          have hP2 : P = (f3, []) := by rw [hPd]; unfold decE; rw [hes]
          subst hP2
          refine AWp.seq_region tok fun K hK => ?_
          simp -implicitDefEqProofs only [vcT, wantedA, kp, kp2, kpS, kr, k1, k2, kL, kLP, kFn, kFn2, kSl, kSl2, kSl3, kC2, kP0, kP1, ev, evs, evParts, evO, Nat.reduceLT, Nat.reduceEqDiff, reduceIte, fr0, okConst, okc, appendA, cellsA, boxA, allocA, storeA, loadA, fieldA, indexA, fieldV, indexV, partA, extractA, nilA, binA, intBin, unA, lenA, isAggD, isConst, Nat.reduceAdd, Nat.reduceMul, Nat.reduceLeDiff, Nat.reduceSub, Nat.reduceBEq, splice, reduceCtorEq, Int.reduceEq, Int.reduceLT, Int.reduceLE, Int.reduceNeg, Int.reduceBEq, String.reduceEq, eqFlat, tf, aOpI, f13, ty9, strBin, toList_empty, hz, bne, decide_true, Bool.not_true]
          refine hK _ _ ?_
          clear hK
          refine AWp.condF (by simp -implicitDefEqProofs only [vcT, wantedA, kp, kp2, kpS, kr, k1, k2, kL, kLP, kFn, kFn2, kSl, kSl2, kSl3, kC2, kP0, kP1, ev, evs, evParts, evO, Nat.reduceLT, Nat.reduceEqDiff, reduceIte, fr0, okConst, okc, appendA, cellsA, boxA, allocA, storeA, loadA, fieldA, indexA, fieldV, indexV, partA, extractA, nilA, binA, intBin, unA, lenA, isAggD, isConst, Nat.reduceAdd, Nat.reduceMul, Nat.reduceLeDiff, Nat.reduceSub, Nat.reduceBEq, splice, reduceCtorEq, Int.reduceEq, Int.reduceLT, Int.reduceLE, Int.reduceNeg, Int.reduceBEq, String.reduceEq, eqFlat, tf, aOpI]) ?_
          refine AWp.skip ?_
          refine hK2 _ _ ?_
          clear hK2
          have hfr := hi.fr
          have hout := hi.out hml hrl' (.row 34 true (frmC f3 vm vr))
          simp only [frmC] at hfr hres hout
          refine AWp.seq_region tok fun K hK => ?_
          simp -implicitDefEqProofs only [vcT, wantedA, kp, kp2, kpS, kr, k1, k2, kL, kLP, kFn, kFn2, kSl, kSl2, kSl3, kC2, kP0, kP1, ev, evs, evParts, evO, Nat.reduceLT, Nat.reduceEqDiff, reduceIte, fr0, okConst, okc, appendA, cellsA, boxA, allocA, storeA, loadA, fieldA, indexA, fieldV, indexV, partA, extractA, nilA, binA, intBin, unA, lenA, isAggD, isConst, Nat.reduceAdd, Nat.reduceMul, Nat.reduceLeDiff, Nat.reduceSub, Nat.reduceBEq, splice, reduceCtorEq, Int.reduceEq, Int.reduceLT, Int.reduceLE, Int.reduceNeg, Int.reduceBEq, String.reduceEq, eqFlat, tf, aOpI, f7', f2', hfr, hres, ty34, hone.1, hone.2, hone2.1, hone2.2]
          refine hK _ _ ?_
          clear hK
          refine AWp.ret ?_
          simp -implicitDefEqProofs only [vcT, wantedA, kp, kp2, kpS, kr, k1, k2, kL, kLP, kFn, kFn2, kSl, kSl2, kSl3, kC2, kP0, kP1, ev, evs, evParts, evO, Nat.reduceLT, Nat.reduceEqDiff, reduceIte, fr0, okConst, okc, appendA, cellsA, boxA, allocA, storeA, loadA, fieldA, indexA, fieldV, indexV, partA, extractA, nilA, binA, intBin, unA, lenA, isAggD, isConst, Nat.reduceAdd, Nat.reduceMul, Nat.reduceLeDiff, Nat.reduceSub, Nat.reduceBEq, splice, reduceCtorEq, Int.reduceEq, Int.reduceLT, Int.reduceLE, Int.reduceNeg, Int.reduceBEq, String.reduceEq, eqFlat, tf, aOpI, ThenA, BlockA, EndA, ressA, resA, wrapA, f2', hr3, ty34]
          exact ⟨hout.1, vm, vr, rfl, hout.2⟩
        · have hz : ¬ (trS (thenE r.endE (chkE f3))).size = 0 := fun q => hes (hsz.2.1 q)
          have hP2 : P = (zF, (40, (r.at_ : Int)) :: thenE r.endE (chkE f3)) := by
            rw [hPd]
            unfold decE
            split
            · rename_i h
              exact absurd h hes
            · rename_i h
              rw [h]
          subst hP2
          have hov := over_oneE h1T hes (r.at_ : Int)
          generalize thenE r.endE (chkE f3) = es at *
          obtain ⟨ob, hro⟩ := hi.rd.row
          refine AWp.seq_region tok fun K hK => ?_
          simp -implicitDefEqProofs only [vcT, wantedA, kp, kp2, kpS, kr, k1, k2, kL, kLP, kFn, kFn2, kSl, kSl2, kSl3, kC2, kP0, kP1, ev, evs, evParts, evO, Nat.reduceLT, Nat.reduceEqDiff, reduceIte, fr0, okConst, okc, appendA, cellsA, boxA, allocA, storeA, loadA, fieldA, indexA, fieldV, indexV, partA, extractA, nilA, binA, intBin, unA, lenA, isAggD, isConst, Nat.reduceAdd, Nat.reduceMul, Nat.reduceLeDiff, Nat.reduceSub, Nat.reduceBEq, splice, reduceCtorEq, Int.reduceEq, Int.reduceLT, Int.reduceLE, Int.reduceNeg, Int.reduceBEq, String.reduceEq, eqFlat, tf, aOpI, f13, ty9, strBin, toList_empty, hz, bne, decide_false, Bool.not_false]
          refine hK _ _ ?_
          clear hK
          refine AWp.condT (by simp -implicitDefEqProofs only [vcT, wantedA, kp, kp2, kpS, kr, k1, k2, kL, kLP, kFn, kFn2, kSl, kSl2, kSl3, kC2, kP0, kP1, ev, evs, evParts, evO, Nat.reduceLT, Nat.reduceEqDiff, reduceIte, fr0, okConst, okc, appendA, cellsA, boxA, allocA, storeA, loadA, fieldA, indexA, fieldV, indexV, partA, extractA, nilA, binA, intBin, unA, lenA, isAggD, isConst, Nat.reduceAdd, Nat.reduceMul, Nat.reduceLeDiff, Nat.reduceSub, Nat.reduceBEq, splice, reduceCtorEq, Int.reduceEq, Int.reduceLT, Int.reduceLE, Int.reduceNeg, Int.reduceBEq, String.reduceEq, eqFlat, tf, aOpI]) ?_
          refine AWp.seq_region tok fun K hK => ?_
          have hra := hi.rd.ok.le
          have hrb := hi.rd.ok.len
          refine aList_cut 6 fun K1 hK1 => ?_
          simp -implicitDefEqProofs only [vcT, wantedA, kp, kp2, kpS, kr, k1, k2, kL, kLP, kFn, kFn2, kSl, kSl2, kSl3, kC2, kP0, kP1, ev, evs, evParts, evO, Nat.reduceLT, Nat.reduceEqDiff, reduceIte, fr0, okConst, okc, appendA, cellsA, boxA, allocA, storeA, loadA, fieldA, indexA, fieldV, indexV, partA, extractA, nilA, binA, intBin, unA, lenA, isAggD, isConst, Nat.reduceAdd, Nat.reduceMul, Nat.reduceLeDiff, Nat.reduceSub, Nat.reduceBEq, splice, reduceCtorEq, Int.reduceEq, Int.reduceLT, Int.reduceLE, Int.reduceNeg, Int.reduceBEq, String.reduceEq, eqFlat, tf, aOpI, f13, f6', hro, bd34_0, ty86, ty88, ty3]
          refine hK1 _ _ ?_
          clear hK1
          refine aList_cut 1 fun K1 hK1 => ?_
          simp -implicitDefEqProofs only [vcT, wantedA, kp, kp2, kpS, kr, k1, k2, kL, kLP, kFn, kFn2, kSl, kSl2, kSl3, kC2, kP0, kP1, ev, evs, evParts, evO, Nat.reduceLT, Nat.reduceEqDiff, reduceIte, fr0, okConst, okc, appendA, cellsA, boxA, allocA, storeA, loadA, fieldA, indexA, fieldV, indexV, partA, extractA, nilA, binA, intBin, unA, lenA, isAggD, isConst, Nat.reduceAdd, Nat.reduceMul, Nat.reduceLeDiff, Nat.reduceSub, Nat.reduceBEq, splice, reduceCtorEq, Int.reduceEq, Int.reduceLT, Int.reduceLE, Int.reduceNeg, Int.reduceBEq, String.reduceEq, eqFlat, tf, aOpI, Array.toList_empty, List.drop_succ_cons, List.drop_zero]
          refine (call37 40 (r.at_ : Int) (trS es) (by decide) (by omega) hsz.1 _).mono ?_
          rintro x S6 ⟨rfl, rfl⟩
          refine hK1 _ _ ?_
          clear hK1
          simp only [frmC] at hres
          simp only [frmV]
          simp -implicitDefEqProofs only [vcT, wantedA, kp, kp2, kpS, kr, k1, k2, kL, kLP, kFn, kFn2, kSl, kSl2, kSl3, kC2, kP0, kP1, ev, evs, evParts, evO, Nat.reduceLT, Nat.reduceEqDiff, reduceIte, fr0, okConst, okc, appendA, cellsA, boxA, allocA, storeA, loadA, fieldA, indexA, fieldV, indexV, partA, extractA, nilA, binA, intBin, unA, lenA, isAggD, isConst, Nat.reduceAdd, Nat.reduceMul, Nat.reduceLeDiff, Nat.reduceSub, Nat.reduceBEq, splice, reduceCtorEq, Int.reduceEq, Int.reduceLT, Int.reduceLE, Int.reduceNeg, Int.reduceBEq, String.reduceEq, eqFlat, tf, aOpI, f2', hres, ty34, List.drop_succ_cons, List.drop_zero]
          refine hK _ _ ?_
          clear hK
          refine AWp.ret ?_
          simp -implicitDefEqProofs only [vcT, wantedA, kp, kp2, kpS, kr, k1, k2, kL, kLP, kFn, kFn2, kSl, kSl2, kSl3, kC2, kP0, kP1, ev, evs, evParts, evO, Nat.reduceLT, Nat.reduceEqDiff, reduceIte, fr0, okConst, okc, appendA, cellsA, boxA, allocA, storeA, loadA, fieldA, indexA, fieldV, indexV, partA, extractA, nilA, binA, intBin, unA, lenA, isAggD, isConst, Nat.reduceAdd, Nat.reduceMul, Nat.reduceLeDiff, Nat.reduceSub, Nat.reduceBEq, splice, reduceCtorEq, Int.reduceEq, Int.reduceLT, Int.reduceLE, Int.reduceNeg, Int.reduceBEq, String.reduceEq, eqFlat, tf, aOpI, ThenA, BlockA, EndA, ressA, resA, wrapA, f2', hr3, ty34]
          rw [hov]
          exact ⟨hi.k.set (Nat.le_refl _) _, _, _, rfl, zF_at _⟩
      clear hK1
      have hone := hi.ms.one
      have hone2 := hi.rs.one
      have hfr := hi.fr
      have hsz := oneE_size h1E
      by_cases hre : r.endE = []
      · have hz : (trS r.endE).size = 0 := hsz.2.2 hre
        simp only [frmC] at hfr
        refine AWp.seq_region tok fun K hK => ?_
        simp -implicitDefEqProofs only [vcT, wantedA, kp, kp2, kpS, kr, k1, k2, kL, kLP, kFn, kFn2, kSl, kSl2, kSl3, kC2, kP0, kP1, ev, evs, evParts, evO, Nat.reduceLT, Nat.reduceEqDiff, reduceIte, fr0, okConst, okc, appendA, cellsA, boxA, allocA, storeA, loadA, fieldA, indexA, fieldV, indexV, partA, extractA, nilA, binA, intBin, unA, lenA, isAggD, isConst, Nat.reduceAdd, Nat.reduceMul, Nat.reduceLeDiff, Nat.reduceSub, Nat.reduceBEq, splice, reduceCtorEq, Int.reduceEq, Int.reduceLT, Int.reduceLE, Int.reduceNeg, Int.reduceBEq, String.reduceEq, eqFlat, tf, aOpI, frL_cons, ty9, strBin, toList_empty, hz, decide_true]
        refine hK _ _ ?_
        clear hK
        refine AWp.condT (by simp -implicitDefEqProofs only [vcT, wantedA, kp, kp2, kpS, kr, k1, k2, kL, kLP, kFn, kFn2, kSl, kSl2, kSl3, kC2, kP0, kP1, ev, evs, evParts, evO, Nat.reduceLT, Nat.reduceEqDiff, reduceIte, fr0, okConst, okc, appendA, cellsA, boxA, allocA, storeA, loadA, fieldA, indexA, fieldV, indexV, partA, extractA, nilA, binA, intBin, unA, lenA, isAggD, isConst, Nat.reduceAdd, Nat.reduceMul, Nat.reduceLeDiff, Nat.reduceSub, Nat.reduceBEq, splice, reduceCtorEq, Int.reduceEq, Int.reduceLT, Int.reduceLE, Int.reduceNeg, Int.reduceBEq, String.reduceEq, eqFlat, tf, aOpI]) ?_
        refine AWp.regionK tok fun K hK => ?_
        refine aList_cut 1 fun K1 hK1 => ?_
        simp -implicitDefEqProofs only [vcT, wantedA, kp, kp2, kpS, kr, k1, k2, kL, kLP, kFn, kFn2, kSl, kSl2, kSl3, kC2, kP0, kP1, ev, evs, evParts, evO, Nat.reduceLT, Nat.reduceEqDiff, reduceIte, fr0, okConst, okc, appendA, cellsA, boxA, allocA, storeA, loadA, fieldA, indexA, fieldV, indexV, partA, extractA, nilA, binA, intBin, unA, lenA, isAggD, isConst, Nat.reduceAdd, Nat.reduceMul, Nat.reduceLeDiff, Nat.reduceSub, Nat.reduceBEq, splice, reduceCtorEq, Int.reduceEq, Int.reduceLT, Int.reduceLE, Int.reduceNeg, Int.reduceBEq, String.reduceEq, eqFlat, tf, aOpI, frL_cons, hfr, ty34]
        refine hK1 _ _ ?_
        clear hK1
        refine aList_cut 1 fun K1 hK1 => ?_
        simp -implicitDefEqProofs only [vcT, wantedA, kp, kp2, kpS, kr, k1, k2, kL, kLP, kFn, kFn2, kSl, kSl2, kSl3, kC2, kP0, kP1, ev, evs, evParts, evO, Nat.reduceLT, Nat.reduceEqDiff, reduceIte, fr0, okConst, okc, appendA, cellsA, boxA, allocA, storeA, loadA, fieldA, indexA, fieldV, indexV, partA, extractA, nilA, binA, intBin, unA, lenA, isAggD, isConst, Nat.reduceAdd, Nat.reduceMul, Nat.reduceLeDiff, Nat.reduceSub, Nat.reduceBEq, splice, reduceCtorEq, Int.reduceEq, Int.reduceLT, Int.reduceLE, Int.reduceNeg, Int.reduceBEq, String.reduceEq, eqFlat, tf, aOpI, Array.toList_empty, List.drop_succ_cons, List.drop_zero, frL_cons]
        refine (call42 (hi.frAt hml hrl')).mono ?_
        rintro x S5 ⟨rfl, rfl⟩
        refine hK1 _ _ ?_
        clear hK1
        simp -implicitDefEqProofs only [vcT, wantedA, kp, kp2, kpS, kr, k1, k2, kL, kLP, kFn, kFn2, kSl, kSl2, kSl3, kC2, kP0, kP1, ev, evs, evParts, evO, Nat.reduceLT, Nat.reduceEqDiff, reduceIte, fr0, okConst, okc, appendA, cellsA, boxA, allocA, storeA, loadA, fieldA, indexA, fieldV, indexV, partA, extractA, nilA, binA, intBin, unA, lenA, isAggD, isConst, Nat.reduceAdd, Nat.reduceMul, Nat.reduceLeDiff, Nat.reduceSub, Nat.reduceBEq, splice, reduceCtorEq, Int.reduceEq, Int.reduceLT, Int.reduceLE, Int.reduceNeg, Int.reduceBEq, String.reduceEq, eqFlat, tf, aOpI, frL_cons, List.drop_succ_cons, List.drop_zero]
        refine hK _ _ ?_
        clear hK
        refine hend _ ?_ ?_ ?_ ?_
        all_goals simp only [vcT, wantedA, kp, kp2, kpS, kr, k1, k2, kL, kLP, kFn, kFn2, kSl, kSl2, kSl3, kC2, kP0, kP1, ev, evs, evParts, evO, Nat.reduceLT, Nat.reduceEqDiff, reduceIte, fr0, okConst, okc, appendA, cellsA, boxA, allocA, storeA, loadA, fieldA, indexA, fieldV, indexV, partA, extractA, nilA, binA, intBin, unA, lenA, isAggD, isConst, Nat.reduceAdd, Nat.reduceMul, Nat.reduceLeDiff, Nat.reduceSub, Nat.reduceBEq, splice, reduceCtorEq, Int.reduceEq, Int.reduceLT, Int.reduceLE, Int.reduceNeg, Int.reduceBEq, String.reduceEq, eqFlat, tf, aOpI, frL_cons]
        rw [hre]
        rfl
      · have hz : ¬ (trS r.endE).size = 0 := fun q => hre (hsz.2.1 q)
        refine AWp.seq_region tok fun K hK => ?_
        simp -implicitDefEqProofs only [vcT, wantedA, kp, kp2, kpS, kr, k1, k2, kL, kLP, kFn, kFn2, kSl, kSl2, kSl3, kC2, kP0, kP1, ev, evs, evParts, evO, Nat.reduceLT, Nat.reduceEqDiff, reduceIte, fr0, okConst, okc, appendA, cellsA, boxA, allocA, storeA, loadA, fieldA, indexA, fieldV, indexV, partA, extractA, nilA, binA, intBin, unA, lenA, isAggD, isConst, Nat.reduceAdd, Nat.reduceMul, Nat.reduceLeDiff, Nat.reduceSub, Nat.reduceBEq, splice, reduceCtorEq, Int.reduceEq, Int.reduceLT, Int.reduceLE, Int.reduceNeg, Int.reduceBEq, String.reduceEq, eqFlat, tf, aOpI, frL_cons, ty9, strBin, toList_empty, hz, decide_false]
        refine hK _ _ ?_
        clear hK
        refine AWp.condF (by simp -implicitDefEqProofs only [vcT, wantedA, kp, kp2, kpS, kr, k1, k2, kL, kLP, kFn, kFn2, kSl, kSl2, kSl3, kC2, kP0, kP1, ev, evs, evParts, evO, Nat.reduceLT, Nat.reduceEqDiff, reduceIte, fr0, okConst, okc, appendA, cellsA, boxA, allocA, storeA, loadA, fieldA, indexA, fieldV, indexV, partA, extractA, nilA, binA, intBin, unA, lenA, isAggD, isConst, Nat.reduceAdd, Nat.reduceMul, Nat.reduceLeDiff, Nat.reduceSub, Nat.reduceBEq, splice, reduceCtorEq, Int.reduceEq, Int.reduceLT, Int.reduceLE, Int.reduceNeg, Int.reduceBEq, String.reduceEq, eqFlat, tf, aOpI]) ?_
        refine AWp.skip (hend _ ?_ ?_ ?_ ?_)
        all_goals simp only [vcT, wantedA, kp, kp2, kpS, kr, k1, k2, kL, kLP, kFn, kFn2, kSl, kSl2, kSl3, kC2, kP0, kP1, ev, evs, evParts, evO, Nat.reduceLT, Nat.reduceEqDiff, reduceIte, fr0, okConst, okc, appendA, cellsA, boxA, allocA, storeA, loadA, fieldA, indexA, fieldV, indexV, partA, extractA, nilA, binA, intBin, unA, lenA, isAggD, isConst, Nat.reduceAdd, Nat.reduceMul, Nat.reduceLeDiff, Nat.reduceSub, Nat.reduceBEq, splice, reduceCtorEq, Int.reduceEq, Int.reduceLT, Int.reduceLE, Int.reduceNeg, Int.reduceBEq, String.reduceEq, eqFlat, tf, aOpI, frL_cons]
        rcases h1E with h | ⟨c, a, h, _⟩
        · exact absurd h hre
        · rw [h]
          rfl
    clear hK0
    refine AWp.loopW (fun q fr S2 => ∃ (r : Rd) (rs : List Rec) (vr : Value) (i : Nat), q + i = N ∧ G = rdR q r rs ∧ rs.length + q ≤ 255 ∧ DecI (RF o) S S2 o r o7 { f2 with rs := rs } vm vr ∧ fr = frL [(2, .pointer (some ⟨S.length, 0, none⟩)), (3, .string ⟨#[]⟩), (6, .pointer (some ⟨o, 0, none⟩)), (7, .pointer (some ⟨o7, 0, none⟩)), (8, .int .i64 (N : Int)), (11, .int .i64 (i : Int))]) N
      ⟨_, _, Wk.frame ?_, r1.takeR 1, [], .slice none 0 0, 0, rfl, hG, by simp; omega, by rw [← hf2r]; exact hi, rfl⟩ ?_
    · simp only [List.forall_mem_cons, vcT, wantedA, kp, kp2, kpS, kr, k1, k2, kL, kLP, kFn, kFn2, kSl, kSl2, kSl3, kC2, kP0, kP1, ev, evs, evParts, evO, Nat.reduceLT, Nat.reduceEqDiff, reduceIte, fr0, okConst, okc, appendA, cellsA, boxA, allocA, storeA, loadA, fieldA, indexA, fieldV, indexV, partA, extractA, nilA, binA, intBin, unA, lenA, isAggD, isConst, Nat.reduceAdd, Nat.reduceMul, Nat.reduceLeDiff, Nat.reduceSub, Nat.reduceBEq, splice, reduceCtorEq, Int.reduceEq, Int.reduceLT, Int.reduceLE, Int.reduceNeg, Int.reduceBEq, String.reduceEq, eqFlat, tf, aOpI, frL_cons]
      simp
    clear hi hG
    rintro q fr S2 ⟨r, rs, vr, i, hqi, hG, hql, hi, rfl⟩
    refine AWp.seqK fun K1 hK1 => ?_
    obtain ⟨ob, hro⟩ := hi.rd.row
    have hzz := hi.rd.errZ
    rcases Nat.eq_zero_or_pos q with rfl | hq0
    · have g0 : ¬ ((i : Int) < (N : Int)) := by omega
      refine AWp.seq_region tok fun K hK => ?_
      simp -implicitDefEqProofs only [vcT, wantedA, kp, kp2, kpS, kr, k1, k2, kL, kLP, kFn, kFn2, kSl, kSl2, kSl3, kC2, kP0, kP1, ev, evs, evParts, evO, Nat.reduceLT, Nat.reduceEqDiff, reduceIte, fr0, okConst, okc, appendA, cellsA, boxA, allocA, storeA, loadA, fieldA, indexA, fieldV, indexV, partA, extractA, nilA, binA, intBin, unA, lenA, isAggD, isConst, Nat.reduceAdd, Nat.reduceMul, Nat.reduceLeDiff, Nat.reduceSub, Nat.reduceBEq, splice, reduceCtorEq, Int.reduceEq, Int.reduceLT, Int.reduceLE, Int.reduceNeg, Int.reduceBEq, String.reduceEq, eqFlat, tf, aOpI, frL_cons, g0]
      refine hK _ _ ?_
      clear hK
      refine AWp.condF (by simp -implicitDefEqProofs only [vcT, wantedA, kp, kp2, kpS, kr, k1, k2, kL, kLP, kFn, kFn2, kSl, kSl2, kSl3, kC2, kP0, kP1, ev, evs, evParts, evO, Nat.reduceLT, Nat.reduceEqDiff, reduceIte, fr0, okConst, okc, appendA, cellsA, boxA, allocA, storeA, loadA, fieldA, indexA, fieldV, indexV, partA, extractA, nilA, binA, intBin, unA, lenA, isAggD, isConst, Nat.reduceAdd, Nat.reduceMul, Nat.reduceLeDiff, Nat.reduceSub, Nat.reduceBEq, splice, reduceCtorEq, Int.reduceEq, Int.reduceLT, Int.reduceLE, Int.reduceNeg, Int.reduceBEq, String.reduceEq, eqFlat, tf, aOpI]) ?_
      refine AWp.exit ?_
      simp only [ThenA, BlockA, if_true]
      refine hgo _ _ r rs vr hi hG (by omega) ?_ ?_ ?_ ?_
      all_goals simp only [vcT, wantedA, kp, kp2, kpS, kr, k1, k2, kL, kLP, kFn, kFn2, kSl, kSl2, kSl3, kC2, kP0, kP1, ev, evs, evParts, evO, Nat.reduceLT, Nat.reduceEqDiff, reduceIte, fr0, okConst, okc, appendA, cellsA, boxA, allocA, storeA, loadA, fieldA, indexA, fieldV, indexV, partA, extractA, nilA, binA, intBin, unA, lenA, isAggD, isConst, Nat.reduceAdd, Nat.reduceMul, Nat.reduceLeDiff, Nat.reduceSub, Nat.reduceBEq, splice, reduceCtorEq, Int.reduceEq, Int.reduceLT, Int.reduceLE, Int.reduceNeg, Int.reduceBEq, String.reduceEq, eqFlat, tf, aOpI, frL_cons]
    have g0 : (i : Int) < (N : Int) := by omega
    by_cases he : r.err = none
    rotate_left
    · have hz : ¬ (errT r.err).size = 0 := fun q => he (hzz.1 q)
      refine AWp.seq_region tok fun K hK => ?_
      simp -implicitDefEqProofs only [vcT, wantedA, kp, kp2, kpS, kr, k1, k2, kL, kLP, kFn, kFn2, kSl, kSl2, kSl3, kC2, kP0, kP1, ev, evs, evParts, evO, Nat.reduceLT, Nat.reduceEqDiff, reduceIte, fr0, okConst, okc, appendA, cellsA, boxA, allocA, storeA, loadA, fieldA, indexA, fieldV, indexV, partA, extractA, nilA, binA, intBin, unA, lenA, isAggD, isConst, Nat.reduceAdd, Nat.reduceMul, Nat.reduceLeDiff, Nat.reduceSub, Nat.reduceBEq, splice, reduceCtorEq, Int.reduceEq, Int.reduceLT, Int.reduceLE, Int.reduceNeg, Int.reduceBEq, String.reduceEq, eqFlat, tf, aOpI, frL_cons, g0, hro, ty86, ty88, ty9, strBin, toList_empty, hz, decide_false]
      refine hK _ _ ?_
      clear hK
      refine AWp.condF (by simp -implicitDefEqProofs only [vcT, wantedA, kp, kp2, kpS, kr, k1, k2, kL, kLP, kFn, kFn2, kSl, kSl2, kSl3, kC2, kP0, kP1, ev, evs, evParts, evO, Nat.reduceLT, Nat.reduceEqDiff, reduceIte, fr0, okConst, okc, appendA, cellsA, boxA, allocA, storeA, loadA, fieldA, indexA, fieldV, indexV, partA, extractA, nilA, binA, intBin, unA, lenA, isAggD, isConst, Nat.reduceAdd, Nat.reduceMul, Nat.reduceLeDiff, Nat.reduceSub, Nat.reduceBEq, splice, reduceCtorEq, Int.reduceEq, Int.reduceLT, Int.reduceLE, Int.reduceNeg, Int.reduceBEq, String.reduceEq, eqFlat, tf, aOpI]) ?_
      refine AWp.exit ?_
      simp only [ThenA, BlockA, if_true]
      have hG' : G = (rs, r) := by
        rw [hG]
        cases q with
        | zero => rfl
        | succ q => unfold rdR; rw [if_neg he]
      refine hgo _ _ r rs vr hi hG' (by omega) ?_ ?_ ?_ ?_
      all_goals simp only [vcT, wantedA, kp, kp2, kpS, kr, k1, k2, kL, kLP, kFn, kFn2, kSl, kSl2, kSl3, kC2, kP0, kP1, ev, evs, evParts, evO, Nat.reduceLT, Nat.reduceEqDiff, reduceIte, fr0, okConst, okc, appendA, cellsA, boxA, allocA, storeA, loadA, fieldA, indexA, fieldV, indexV, partA, extractA, nilA, binA, intBin, unA, lenA, isAggD, isConst, Nat.reduceAdd, Nat.reduceMul, Nat.reduceLeDiff, Nat.reduceSub, Nat.reduceBEq, splice, reduceCtorEq, Int.reduceEq, Int.reduceLT, Int.reduceLE, Int.reduceNeg, Int.reduceBEq, String.reduceEq, eqFlat, tf, aOpI, frL_cons]
    have hz : (errT r.err).size = 0 := hzz.2 he
    refine AWp.seq_region tok fun K hK => ?_
    simp -implicitDefEqProofs only [vcT, wantedA, kp, kp2, kpS, kr, k1, k2, kL, kLP, kFn, kFn2, kSl, kSl2, kSl3, kC2, kP0, kP1, ev, evs, evParts, evO, Nat.reduceLT, Nat.reduceEqDiff, reduceIte, fr0, okConst, okc, appendA, cellsA, boxA, allocA, storeA, loadA, fieldA, indexA, fieldV, indexV, partA, extractA, nilA, binA, intBin, unA, lenA, isAggD, isConst, Nat.reduceAdd, Nat.reduceMul, Nat.reduceLeDiff, Nat.reduceSub, Nat.reduceBEq, splice, reduceCtorEq, Int.reduceEq, Int.reduceLT, Int.reduceLE, Int.reduceNeg, Int.reduceBEq, String.reduceEq, eqFlat, tf, aOpI, frL_cons, g0, hro, ty86, ty88, ty9, strBin, toList_empty, hz, decide_true]
    refine hK _ _ ?_
    clear hK
    refine AWp.condT (by simp -implicitDefEqProofs only [vcT, wantedA, kp, kp2, kpS, kr, k1, k2, kL, kLP, kFn, kFn2, kSl, kSl2, kSl3, kC2, kP0, kP1, ev, evs, evParts, evO, Nat.reduceLT, Nat.reduceEqDiff, reduceIte, fr0, okConst, okc, appendA, cellsA, boxA, allocA, storeA, loadA, fieldA, indexA, fieldV, indexV, partA, extractA, nilA, binA, intBin, unA, lenA, isAggD, isConst, Nat.reduceAdd, Nat.reduceMul, Nat.reduceLeDiff, Nat.reduceSub, Nat.reduceBEq, splice, reduceCtorEq, Int.reduceEq, Int.reduceLT, Int.reduceLE, Int.reduceNeg, Int.reduceBEq, String.reduceEq, eqFlat, tf, aOpI]) ?_
    refine AWp.skip ?_
    refine hK1 _ _ ?_
    clear hK1
    clear hgo hro hzz hz
    obtain ⟨q, rfl⟩ : ∃ k, q = k + 1 := ⟨q - 1, by omega⟩
    have hG' : G = rdR q (rdRecR r) (rs ++ [rdRec r]) := by
      rw [hG]
      conv => lhs; unfold rdR
      rw [if_pos he]
    have w0 : IntKind.wrap .i64 ((i : Int) + 1) = ((i + 1 : Nat) : Int) := by rw [IntKind.wrap_i64]; omega
    refine AWp.seqK fun K1 hK1 => ?_
    refine AWp.block ?_
    refine AWp.seq_region tok fun K hK => ?_
    refine aList_cut 1 fun K1 hK1 => ?_
    simp -implicitDefEqProofs only [vcT, wantedA, kp, kp2, kpS, kr, k1, k2, kL, kLP, kFn, kFn2, kSl, kSl2, kSl3, kC2, kP0, kP1, ev, evs, evParts, evO, Nat.reduceLT, Nat.reduceEqDiff, reduceIte, fr0, okConst, okc, appendA, cellsA, boxA, allocA, storeA, loadA, fieldA, indexA, fieldV, indexV, partA, extractA, nilA, binA, intBin, unA, lenA, isAggD, isConst, Nat.reduceAdd, Nat.reduceMul, Nat.reduceLeDiff, Nat.reduceSub, Nat.reduceBEq, splice, reduceCtorEq, Int.reduceEq, Int.reduceLT, Int.reduceLE, Int.reduceNeg, Int.reduceBEq, String.reduceEq, eqFlat, tf, aOpI, frL_cons]
    refine hK1 _ _ ?_
    clear hK1
    refine aList_cut 1 fun K1 hK1 => ?_
    simp -implicitDefEqProofs only [vcT, wantedA, kp, kp2, kpS, kr, k1, k2, kL, kLP, kFn, kFn2, kSl, kSl2, kSl3, kC2, kP0, kP1, ev, evs, evParts, evO, Nat.reduceLT, Nat.reduceEqDiff, reduceIte, fr0, okConst, okc, appendA, cellsA, boxA, allocA, storeA, loadA, fieldA, indexA, fieldV, indexV, partA, extractA, nilA, binA, intBin, unA, lenA, isAggD, isConst, Nat.reduceAdd, Nat.reduceMul, Nat.reduceLeDiff, Nat.reduceSub, Nat.reduceBEq, splice, reduceCtorEq, Int.reduceEq, Int.reduceLT, Int.reduceLE, Int.reduceNeg, Int.reduceBEq, String.reduceEq, eqFlat, tf, aOpI, Array.toList_empty, List.drop_succ_cons, List.drop_zero, frL_cons]
    refine (ftake4 hi.rd).mono ?_
    rintro x S4 ⟨rfl, hm, hr⟩
    replace hi := hi.read (isRF o) hm hr
    clear hm hr
    refine hK1 _ _ ?_
    clear hK1
    simp -implicitDefEqProofs only [vcT, wantedA, kp, kp2, kpS, kr, k1, k2, kL, kLP, kFn, kFn2, kSl, kSl2, kSl3, kC2, kP0, kP1, ev, evs, evParts, evO, Nat.reduceLT, Nat.reduceEqDiff, reduceIte, fr0, okConst, okc, appendA, cellsA, boxA, allocA, storeA, loadA, fieldA, indexA, fieldV, indexV, partA, extractA, nilA, binA, intBin, unA, lenA, isAggD, isConst, Nat.reduceAdd, Nat.reduceMul, Nat.reduceLeDiff, Nat.reduceSub, Nat.reduceBEq, splice, reduceCtorEq, Int.reduceEq, Int.reduceLT, Int.reduceLE, Int.reduceNeg, Int.reduceBEq, String.reduceEq, eqFlat, tf, aOpI, frL_cons, ty24, ty81, convA, bd81_1, List.drop_succ_cons, List.drop_zero]
    refine hK _ _ ?_
    clear hK
    have hap := hi.ap
    obtain ⟨x, hx⟩ : ∃ x, x = S4.length := ⟨_, rfl⟩
    rw [← hx] at hap ⊢
    have hxlo : S.length < x := by have := (List.getElem?_eq_some_iff.1 hi.res).1; omega
    have ht : (S4 ++ [AObj.row 81 true [.int .u32 ((r.takeV 4 : Nat) : Int), .int .u8 0, .int .u8 0, .int .u8 0, .int .u8 0]])[x]? = some (.row 81 true [.int .u32 ((r.takeV 4 : Nat) : Int), .int .u8 0, .int .u8 0, .int .u8 0, .int .u8 0]) := by rw [hx]; simp
    replace hi := hi.more (isRF o) [.row 81 true [.int .u32 ((r.takeV 4 : Nat) : Int), .int .u8 0, .int .u8 0, .int .u8 0, .int .u8 0]]
    generalize (S4 ++ [AObj.row 81 true [.int .u32 ((r.takeV 4 : Nat) : Int), .int .u8 0, .int .u8 0, .int .u8 0, .int .u8 0]]) = S4 at hi ht ⊢
    clear hx
    refine AWp.weak (Wk.fr (l := [(2, .pointer (some ⟨S.length, 0, none⟩)), (3, .string ⟨#[]⟩), (6, .pointer (some ⟨o, 0, none⟩)), (7, .pointer (some ⟨o7, 0, none⟩)), (8, .int .i64 (N : Int)), (11, .int .i64 (i : Int)), (12, .pointer (some ⟨x, 0, none⟩))]) (by simp only [List.forall_mem_cons, vcT, wantedA, kp, kp2, kpS, kr, k1, k2, kL, kLP, kFn, kFn2, kSl, kSl2, kSl3, kC2, kP0, kP1, ev, evs, evParts, evO, Nat.reduceLT, Nat.reduceEqDiff, reduceIte, fr0, okConst, okc, appendA, cellsA, boxA, allocA, storeA, loadA, fieldA, indexA, fieldV, indexV, partA, extractA, nilA, binA, intBin, unA, lenA, isAggD, isConst, Nat.reduceAdd, Nat.reduceMul, Nat.reduceLeDiff, Nat.reduceSub, Nat.reduceBEq, splice, reduceCtorEq, Int.reduceEq, Int.reduceLT, Int.reduceLE, Int.reduceNeg, Int.reduceBEq, String.reduceEq, eqFlat, tf, aOpI, frL_cons]; simp)) ?_
    have z1 := wtake1 hi.rd.ok
    refine AWp.seq_region tok fun K hK => ?_
    refine aList_cut 1 fun K1 hK1 => ?_
    simp -implicitDefEqProofs only [vcT, wantedA, kp, kp2, kpS, kr, k1, k2, kL, kLP, kFn, kFn2, kSl, kSl2, kSl3, kC2, kP0, kP1, ev, evs, evParts, evO, Nat.reduceLT, Nat.reduceEqDiff, reduceIte, fr0, okConst, okc, appendA, cellsA, boxA, allocA, storeA, loadA, fieldA, indexA, fieldV, indexV, partA, extractA, nilA, binA, intBin, unA, lenA, isAggD, isConst, Nat.reduceAdd, Nat.reduceMul, Nat.reduceLeDiff, Nat.reduceSub, Nat.reduceBEq, splice, reduceCtorEq, Int.reduceEq, Int.reduceLT, Int.reduceLE, Int.reduceNeg, Int.reduceBEq, String.reduceEq, eqFlat, tf, aOpI, frL_cons]
    refine hK1 _ _ ?_
    clear hK1
    refine aList_cut 1 fun K1 hK1 => ?_
    simp -implicitDefEqProofs only [vcT, wantedA, kp, kp2, kpS, kr, k1, k2, kL, kLP, kFn, kFn2, kSl, kSl2, kSl3, kC2, kP0, kP1, ev, evs, evParts, evO, Nat.reduceLT, Nat.reduceEqDiff, reduceIte, fr0, okConst, okc, appendA, cellsA, boxA, allocA, storeA, loadA, fieldA, indexA, fieldV, indexV, partA, extractA, nilA, binA, intBin, unA, lenA, isAggD, isConst, Nat.reduceAdd, Nat.reduceMul, Nat.reduceLeDiff, Nat.reduceSub, Nat.reduceBEq, splice, reduceCtorEq, Int.reduceEq, Int.reduceLT, Int.reduceLE, Int.reduceNeg, Int.reduceBEq, String.reduceEq, eqFlat, tf, aOpI, Array.toList_empty, List.drop_succ_cons, List.drop_zero, frL_cons]
    refine (ftake1 hi.rd).mono ?_
    rintro xx S4 ⟨rfl, hm, hr⟩
    replace ht := hm.get ht (hi.ne88 (isRF o) ht)
    replace hi := hi.read (isRF o) hm hr
    clear hm hr
    refine hK1 _ _ ?_
    clear hK1
    simp -implicitDefEqProofs only [vcT, wantedA, kp, kp2, kpS, kr, k1, k2, kL, kLP, kFn, kFn2, kSl, kSl2, kSl3, kC2, kP0, kP1, ev, evs, evParts, evO, Nat.reduceLT, Nat.reduceEqDiff, reduceIte, fr0, okConst, okc, appendA, cellsA, boxA, allocA, storeA, loadA, fieldA, indexA, fieldV, indexV, partA, extractA, nilA, binA, intBin, unA, lenA, isAggD, isConst, Nat.reduceAdd, Nat.reduceMul, Nat.reduceLeDiff, Nat.reduceSub, Nat.reduceBEq, splice, reduceCtorEq, Int.reduceEq, Int.reduceLT, Int.reduceLE, Int.reduceNeg, Int.reduceBEq, String.reduceEq, eqFlat, tf, aOpI, frL_cons, ty24, ty5, ty78, ty79, ty81, convA, z1, ht, List.drop_succ_cons, List.drop_zero]
    refine hK _ _ ?_
    clear hK
    have hlx := (List.getElem?_eq_some_iff.1 ht).1
    replace hi := hi.setR (isRF o) (cs' := [.int .u32 ((r.takeV 4 : Nat) : Int), .int .u8 (((r.takeR 4).takeV 1 : Nat) : Int), .int .u8 0, .int .u8 0, .int .u8 0]) ht hap hxlo
    replace ht : (S4.set x (.row 81 true [.int .u32 ((r.takeV 4 : Nat) : Int), .int .u8 (((r.takeR 4).takeV 1 : Nat) : Int), .int .u8 0, .int .u8 0, .int .u8 0]))[x]? = some (.row 81 true [.int .u32 ((r.takeV 4 : Nat) : Int), .int .u8 (((r.takeR 4).takeV 1 : Nat) : Int), .int .u8 0, .int .u8 0, .int .u8 0]) := List.getElem?_set_self hlx
    show AWp _ _ _ _ _ _ (S4.set x (.row 81 true [.int .u32 ((r.takeV 4 : Nat) : Int), .int .u8 (((r.takeR 4).takeV 1 : Nat) : Int), .int .u8 0, .int .u8 0, .int .u8 0]))
    generalize (S4.set x (.row 81 true [.int .u32 ((r.takeV 4 : Nat) : Int), .int .u8 (((r.takeR 4).takeV 1 : Nat) : Int), .int .u8 0, .int .u8 0, .int .u8 0])) = S4 at hi ht ⊢
    clear hlx z1
    refine AWp.weak (Wk.fr (l := [(2, .pointer (some ⟨S.length, 0, none⟩)), (3, .string ⟨#[]⟩), (6, .pointer (some ⟨o, 0, none⟩)), (7, .pointer (some ⟨o7, 0, none⟩)), (8, .int .i64 (N : Int)), (11, .int .i64 (i : Int)), (12, .pointer (some ⟨x, 0, none⟩))]) (by simp only [List.forall_mem_cons, vcT, wantedA, kp, kp2, kpS, kr, k1, k2, kL, kLP, kFn, kFn2, kSl, kSl2, kSl3, kC2, kP0, kP1, ev, evs, evParts, evO, Nat.reduceLT, Nat.reduceEqDiff, reduceIte, fr0, okConst, okc, appendA, cellsA, boxA, allocA, storeA, loadA, fieldA, indexA, fieldV, indexV, partA, extractA, nilA, binA, intBin, unA, lenA, isAggD, isConst, Nat.reduceAdd, Nat.reduceMul, Nat.reduceLeDiff, Nat.reduceSub, Nat.reduceBEq, splice, reduceCtorEq, Int.reduceEq, Int.reduceLT, Int.reduceLE, Int.reduceNeg, Int.reduceBEq, String.reduceEq, eqFlat, tf, aOpI, frL_cons]; simp)) ?_
    have z1 := wtake1 hi.rd.ok
    refine AWp.seq_region tok fun K hK => ?_
    refine aList_cut 1 fun K1 hK1 => ?_
    simp -implicitDefEqProofs only [vcT, wantedA, kp, kp2, kpS, kr, k1, k2, kL, kLP, kFn, kFn2, kSl, kSl2, kSl3, kC2, kP0, kP1, ev, evs, evParts, evO, Nat.reduceLT, Nat.reduceEqDiff, reduceIte, fr0, okConst, okc, appendA, cellsA, boxA, allocA, storeA, loadA, fieldA, indexA, fieldV, indexV, partA, extractA, nilA, binA, intBin, unA, lenA, isAggD, isConst, Nat.reduceAdd, Nat.reduceMul, Nat.reduceLeDiff, Nat.reduceSub, Nat.reduceBEq, splice, reduceCtorEq, Int.reduceEq, Int.reduceLT, Int.reduceLE, Int.reduceNeg, Int.reduceBEq, String.reduceEq, eqFlat, tf, aOpI, frL_cons]
    refine hK1 _ _ ?_
    clear hK1
    refine aList_cut 1 fun K1 hK1 => ?_
    simp -implicitDefEqProofs only [vcT, wantedA, kp, kp2, kpS, kr, k1, k2, kL, kLP, kFn, kFn2, kSl, kSl2, kSl3, kC2, kP0, kP1, ev, evs, evParts, evO, Nat.reduceLT, Nat.reduceEqDiff, reduceIte, fr0, okConst, okc, appendA, cellsA, boxA, allocA, storeA, loadA, fieldA, indexA, fieldV, indexV, partA, extractA, nilA, binA, intBin, unA, lenA, isAggD, isConst, Nat.reduceAdd, Nat.reduceMul, Nat.reduceLeDiff, Nat.reduceSub, Nat.reduceBEq, splice, reduceCtorEq, Int.reduceEq, Int.reduceLT, Int.reduceLE, Int.reduceNeg, Int.reduceBEq, String.reduceEq, eqFlat, tf, aOpI, Array.toList_empty, List.drop_succ_cons, List.drop_zero, frL_cons]
    refine (ftake1 hi.rd).mono ?_
    rintro xx S4 ⟨rfl, hm, hr⟩
    replace ht := hm.get ht (hi.ne88 (isRF o) ht)
    replace hi := hi.read (isRF o) hm hr
    clear hm hr
    refine hK1 _ _ ?_
    clear hK1
    simp -implicitDefEqProofs only [vcT, wantedA, kp, kp2, kpS, kr, k1, k2, kL, kLP, kFn, kFn2, kSl, kSl2, kSl3, kC2, kP0, kP1, ev, evs, evParts, evO, Nat.reduceLT, Nat.reduceEqDiff, reduceIte, fr0, okConst, okc, appendA, cellsA, boxA, allocA, storeA, loadA, fieldA, indexA, fieldV, indexV, partA, extractA, nilA, binA, intBin, unA, lenA, isAggD, isConst, Nat.reduceAdd, Nat.reduceMul, Nat.reduceLeDiff, Nat.reduceSub, Nat.reduceBEq, splice, reduceCtorEq, Int.reduceEq, Int.reduceLT, Int.reduceLE, Int.reduceNeg, Int.reduceBEq, String.reduceEq, eqFlat, tf, aOpI, frL_cons, ty24, ty5, ty78, ty79, ty81, convA, z1, ht, List.drop_succ_cons, List.drop_zero]
    refine hK _ _ ?_
    clear hK
    have hlx := (List.getElem?_eq_some_iff.1 ht).1
    replace hi := hi.setR (isRF o) (cs' := [.int .u32 ((r.takeV 4 : Nat) : Int), .int .u8 (((r.takeR 4).takeV 1 : Nat) : Int), .int .u8 ((((r.takeR 4).takeR 1).takeV 1 : Nat) : Int), .int .u8 0, .int .u8 0]) ht hap hxlo
    replace ht : (S4.set x (.row 81 true [.int .u32 ((r.takeV 4 : Nat) : Int), .int .u8 (((r.takeR 4).takeV 1 : Nat) : Int), .int .u8 ((((r.takeR 4).takeR 1).takeV 1 : Nat) : Int), .int .u8 0, .int .u8 0]))[x]? = some (.row 81 true [.int .u32 ((r.takeV 4 : Nat) : Int), .int .u8 (((r.takeR 4).takeV 1 : Nat) : Int), .int .u8 ((((r.takeR 4).takeR 1).takeV 1 : Nat) : Int), .int .u8 0, .int .u8 0]) := List.getElem?_set_self hlx
    show AWp _ _ _ _ _ _ (S4.set x (.row 81 true [.int .u32 ((r.takeV 4 : Nat) : Int), .int .u8 (((r.takeR 4).takeV 1 : Nat) : Int), .int .u8 ((((r.takeR 4).takeR 1).takeV 1 : Nat) : Int), .int .u8 0, .int .u8 0]))
    generalize (S4.set x (.row 81 true [.int .u32 ((r.takeV 4 : Nat) : Int), .int .u8 (((r.takeR 4).takeV 1 : Nat) : Int), .int .u8 ((((r.takeR 4).takeR 1).takeV 1 : Nat) : Int), .int .u8 0, .int .u8 0])) = S4 at hi ht ⊢
    clear hlx z1
    refine AWp.weak (Wk.fr (l := [(2, .pointer (some ⟨S.length, 0, none⟩)), (3, .string ⟨#[]⟩), (6, .pointer (some ⟨o, 0, none⟩)), (7, .pointer (some ⟨o7, 0, none⟩)), (8, .int .i64 (N : Int)), (11, .int .i64 (i : Int)), (12, .pointer (some ⟨x, 0, none⟩))]) (by simp only [List.forall_mem_cons, vcT, wantedA, kp, kp2, kpS, kr, k1, k2, kL, kLP, kFn, kFn2, kSl, kSl2, kSl3, kC2, kP0, kP1, ev, evs, evParts, evO, Nat.reduceLT, Nat.reduceEqDiff, reduceIte, fr0, okConst, okc, appendA, cellsA, boxA, allocA, storeA, loadA, fieldA, indexA, fieldV, indexV, partA, extractA, nilA, binA, intBin, unA, lenA, isAggD, isConst, Nat.reduceAdd, Nat.reduceMul, Nat.reduceLeDiff, Nat.reduceSub, Nat.reduceBEq, splice, reduceCtorEq, Int.reduceEq, Int.reduceLT, Int.reduceLE, Int.reduceNeg, Int.reduceBEq, String.reduceEq, eqFlat, tf, aOpI, frL_cons]; simp)) ?_
    have z1 := wtake1 hi.rd.ok
    refine AWp.seq_region tok fun K hK => ?_
    refine aList_cut 1 fun K1 hK1 => ?_
    simp -implicitDefEqProofs only [vcT, wantedA, kp, kp2, kpS, kr, k1, k2, kL, kLP, kFn, kFn2, kSl, kSl2, kSl3, kC2, kP0, kP1, ev, evs, evParts, evO, Nat.reduceLT, Nat.reduceEqDiff, reduceIte, fr0, okConst, okc, appendA, cellsA, boxA, allocA, storeA, loadA, fieldA, indexA, fieldV, indexV, partA, extractA, nilA, binA, intBin, unA, lenA, isAggD, isConst, Nat.reduceAdd, Nat.reduceMul, Nat.reduceLeDiff, Nat.reduceSub, Nat.reduceBEq, splice, reduceCtorEq, Int.reduceEq, Int.reduceLT, Int.reduceLE, Int.reduceNeg, Int.reduceBEq, String.reduceEq, eqFlat, tf, aOpI, frL_cons]
    refine hK1 _ _ ?_
    clear hK1
    refine aList_cut 1 fun K1 hK1 => ?_
    simp -implicitDefEqProofs only [vcT, wantedA, kp, kp2, kpS, kr, k1, k2, kL, kLP, kFn, kFn2, kSl, kSl2, kSl3, kC2, kP0, kP1, ev, evs, evParts, evO, Nat.reduceLT, Nat.reduceEqDiff, reduceIte, fr0, okConst, okc, appendA, cellsA, boxA, allocA, storeA, loadA, fieldA, indexA, fieldV, indexV, partA, extractA, nilA, binA, intBin, unA, lenA, isAggD, isConst, Nat.reduceAdd, Nat.reduceMul, Nat.reduceLeDiff, Nat.reduceSub, Nat.reduceBEq, splice, reduceCtorEq, Int.reduceEq, Int.reduceLT, Int.reduceLE, Int.reduceNeg, Int.reduceBEq, String.reduceEq, eqFlat, tf, aOpI, Array.toList_empty, List.drop_succ_cons, List.drop_zero, frL_cons]
    refine (ftake1 hi.rd).mono ?_
    rintro xx S4 ⟨rfl, hm, hr⟩
    replace ht := hm.get ht (hi.ne88 (isRF o) ht)
    replace hi := hi.read (isRF o) hm hr
    clear hm hr
    refine hK1 _ _ ?_
    clear hK1
    simp -implicitDefEqProofs only [vcT, wantedA, kp, kp2, kpS, kr, k1, k2, kL, kLP, kFn, kFn2, kSl, kSl2, kSl3, kC2, kP0, kP1, ev, evs, evParts, evO, Nat.reduceLT, Nat.reduceEqDiff, reduceIte, fr0, okConst, okc, appendA, cellsA, boxA, allocA, storeA, loadA, fieldA, indexA, fieldV, indexV, partA, extractA, nilA, binA, intBin, unA, lenA, isAggD, isConst, Nat.reduceAdd, Nat.reduceMul, Nat.reduceLeDiff, Nat.reduceSub, Nat.reduceBEq, splice, reduceCtorEq, Int.reduceEq, Int.reduceLT, Int.reduceLE, Int.reduceNeg, Int.reduceBEq, String.reduceEq, eqFlat, tf, aOpI, frL_cons, ty24, ty5, ty78, ty79, ty81, convA, z1, ht, List.drop_succ_cons, List.drop_zero]
    refine hK _ _ ?_
    clear hK
    have hlx := (List.getElem?_eq_some_iff.1 ht).1
    replace hi := hi.setR (isRF o) (cs' := [.int .u32 ((r.takeV 4 : Nat) : Int), .int .u8 (((r.takeR 4).takeV 1 : Nat) : Int), .int .u8 ((((r.takeR 4).takeR 1).takeV 1 : Nat) : Int), .int .u8 (((((r.takeR 4).takeR 1).takeR 1).takeV 1 : Nat) : Int), .int .u8 0]) ht hap hxlo
    replace ht : (S4.set x (.row 81 true [.int .u32 ((r.takeV 4 : Nat) : Int), .int .u8 (((r.takeR 4).takeV 1 : Nat) : Int), .int .u8 ((((r.takeR 4).takeR 1).takeV 1 : Nat) : Int), .int .u8 (((((r.takeR 4).takeR 1).takeR 1).takeV 1 : Nat) : Int), .int .u8 0]))[x]? = some (.row 81 true [.int .u32 ((r.takeV 4 : Nat) : Int), .int .u8 (((r.takeR 4).takeV 1 : Nat) : Int), .int .u8 ((((r.takeR 4).takeR 1).takeV 1 : Nat) : Int), .int .u8 (((((r.takeR 4).takeR 1).takeR 1).takeV 1 : Nat) : Int), .int .u8 0]) := List.getElem?_set_self hlx
    show AWp _ _ _ _ _ _ (S4.set x (.row 81 true [.int .u32 ((r.takeV 4 : Nat) : Int), .int .u8 (((r.takeR 4).takeV 1 : Nat) : Int), .int .u8 ((((r.takeR 4).takeR 1).takeV 1 : Nat) : Int), .int .u8 (((((r.takeR 4).takeR 1).takeR 1).takeV 1 : Nat) : Int), .int .u8 0]))
    generalize (S4.set x (.row 81 true [.int .u32 ((r.takeV 4 : Nat) : Int), .int .u8 (((r.takeR 4).takeV 1 : Nat) : Int), .int .u8 ((((r.takeR 4).takeR 1).takeV 1 : Nat) : Int), .int .u8 (((((r.takeR 4).takeR 1).takeR 1).takeV 1 : Nat) : Int), .int .u8 0])) = S4 at hi ht ⊢
    clear hlx z1
    refine AWp.weak (Wk.fr (l := [(2, .pointer (some ⟨S.length, 0, none⟩)), (3, .string ⟨#[]⟩), (6, .pointer (some ⟨o, 0, none⟩)), (7, .pointer (some ⟨o7, 0, none⟩)), (8, .int .i64 (N : Int)), (11, .int .i64 (i : Int)), (12, .pointer (some ⟨x, 0, none⟩))]) (by simp only [List.forall_mem_cons, vcT, wantedA, kp, kp2, kpS, kr, k1, k2, kL, kLP, kFn, kFn2, kSl, kSl2, kSl3, kC2, kP0, kP1, ev, evs, evParts, evO, Nat.reduceLT, Nat.reduceEqDiff, reduceIte, fr0, okConst, okc, appendA, cellsA, boxA, allocA, storeA, loadA, fieldA, indexA, fieldV, indexV, partA, extractA, nilA, binA, intBin, unA, lenA, isAggD, isConst, Nat.reduceAdd, Nat.reduceMul, Nat.reduceLeDiff, Nat.reduceSub, Nat.reduceBEq, splice, reduceCtorEq, Int.reduceEq, Int.reduceLT, Int.reduceLE, Int.reduceNeg, Int.reduceBEq, String.reduceEq, eqFlat, tf, aOpI, frL_cons]; simp)) ?_
    have z1 := wtake1 hi.rd.ok
    refine AWp.seq_region tok fun K hK => ?_
    refine aList_cut 1 fun K1 hK1 => ?_
    simp -implicitDefEqProofs only [vcT, wantedA, kp, kp2, kpS, kr, k1, k2, kL, kLP, kFn, kFn2, kSl, kSl2, kSl3, kC2, kP0, kP1, ev, evs, evParts, evO, Nat.reduceLT, Nat.reduceEqDiff, reduceIte, fr0, okConst, okc, appendA, cellsA, boxA, allocA, storeA, loadA, fieldA, indexA, fieldV, indexV, partA, extractA, nilA, binA, intBin, unA, lenA, isAggD, isConst, Nat.reduceAdd, Nat.reduceMul, Nat.reduceLeDiff, Nat.reduceSub, Nat.reduceBEq, splice, reduceCtorEq, Int.reduceEq, Int.reduceLT, Int.reduceLE, Int.reduceNeg, Int.reduceBEq, String.reduceEq, eqFlat, tf, aOpI, frL_cons]
    refine hK1 _ _ ?_
    clear hK1
    refine aList_cut 1 fun K1 hK1 => ?_
    simp -implicitDefEqProofs only [vcT, wantedA, kp, kp2, kpS, kr, k1, k2, kL, kLP, kFn, kFn2, kSl, kSl2, kSl3, kC2, kP0, kP1, ev, evs, evParts, evO, Nat.reduceLT, Nat.reduceEqDiff, reduceIte, fr0, okConst, okc, appendA, cellsA, boxA, allocA, storeA, loadA, fieldA, indexA, fieldV, indexV, partA, extractA, nilA, binA, intBin, unA, lenA, isAggD, isConst, Nat.reduceAdd, Nat.reduceMul, Nat.reduceLeDiff, Nat.reduceSub, Nat.reduceBEq, splice, reduceCtorEq, Int.reduceEq, Int.reduceLT, Int.reduceLE, Int.reduceNeg, Int.reduceBEq, String.reduceEq, eqFlat, tf, aOpI, Array.toList_empty, List.drop_succ_cons, List.drop_zero, frL_cons]
    refine (ftake1 hi.rd).mono ?_
    rintro xx S4 ⟨rfl, hm, hr⟩
    replace ht := hm.get ht (hi.ne88 (isRF o) ht)
    replace hi := hi.read (isRF o) hm hr
    clear hm hr
    refine hK1 _ _ ?_
    clear hK1
    simp -implicitDefEqProofs only [vcT, wantedA, kp, kp2, kpS, kr, k1, k2, kL, kLP, kFn, kFn2, kSl, kSl2, kSl3, kC2, kP0, kP1, ev, evs, evParts, evO, Nat.reduceLT, Nat.reduceEqDiff, reduceIte, fr0, okConst, okc, appendA, cellsA, boxA, allocA, storeA, loadA, fieldA, indexA, fieldV, indexV, partA, extractA, nilA, binA, intBin, unA, lenA, isAggD, isConst, Nat.reduceAdd, Nat.reduceMul, Nat.reduceLeDiff, Nat.reduceSub, Nat.reduceBEq, splice, reduceCtorEq, Int.reduceEq, Int.reduceLT, Int.reduceLE, Int.reduceNeg, Int.reduceBEq, String.reduceEq, eqFlat, tf, aOpI, frL_cons, ty24, ty5, ty78, ty79, ty81, convA, z1, ht, List.drop_succ_cons, List.drop_zero]
    refine hK _ _ ?_
    clear hK
    have hlx := (List.getElem?_eq_some_iff.1 ht).1
    replace hi := hi.setR (isRF o) (cs' := [.int .u32 ((r.takeV 4 : Nat) : Int), .int .u8 (((r.takeR 4).takeV 1 : Nat) : Int), .int .u8 ((((r.takeR 4).takeR 1).takeV 1 : Nat) : Int), .int .u8 (((((r.takeR 4).takeR 1).takeR 1).takeV 1 : Nat) : Int), .int .u8 ((((((r.takeR 4).takeR 1).takeR 1).takeR 1).takeV 1 : Nat) : Int)]) ht hap hxlo
    replace ht : (S4.set x (.row 81 true [.int .u32 ((r.takeV 4 : Nat) : Int), .int .u8 (((r.takeR 4).takeV 1 : Nat) : Int), .int .u8 ((((r.takeR 4).takeR 1).takeV 1 : Nat) : Int), .int .u8 (((((r.takeR 4).takeR 1).takeR 1).takeV 1 : Nat) : Int), .int .u8 ((((((r.takeR 4).takeR 1).takeR 1).takeR 1).takeV 1 : Nat) : Int)]))[x]? = some (.row 81 true [.int .u32 ((r.takeV 4 : Nat) : Int), .int .u8 (((r.takeR 4).takeV 1 : Nat) : Int), .int .u8 ((((r.takeR 4).takeR 1).takeV 1 : Nat) : Int), .int .u8 (((((r.takeR 4).takeR 1).takeR 1).takeV 1 : Nat) : Int), .int .u8 ((((((r.takeR 4).takeR 1).takeR 1).takeR 1).takeV 1 : Nat) : Int)]) := List.getElem?_set_self hlx
    show AWp _ _ _ _ _ _ (S4.set x (.row 81 true [.int .u32 ((r.takeV 4 : Nat) : Int), .int .u8 (((r.takeR 4).takeV 1 : Nat) : Int), .int .u8 ((((r.takeR 4).takeR 1).takeV 1 : Nat) : Int), .int .u8 (((((r.takeR 4).takeR 1).takeR 1).takeV 1 : Nat) : Int), .int .u8 ((((((r.takeR 4).takeR 1).takeR 1).takeR 1).takeV 1 : Nat) : Int)]))
    generalize (S4.set x (.row 81 true [.int .u32 ((r.takeV 4 : Nat) : Int), .int .u8 (((r.takeR 4).takeV 1 : Nat) : Int), .int .u8 ((((r.takeR 4).takeR 1).takeV 1 : Nat) : Int), .int .u8 (((((r.takeR 4).takeR 1).takeR 1).takeV 1 : Nat) : Int), .int .u8 ((((((r.takeR 4).takeR 1).takeR 1).takeR 1).takeV 1 : Nat) : Int)])) = S4 at hi ht ⊢
    clear hlx z1
    refine AWp.weak (Wk.fr (l := [(2, .pointer (some ⟨S.length, 0, none⟩)), (3, .string ⟨#[]⟩), (6, .pointer (some ⟨o, 0, none⟩)), (7, .pointer (some ⟨o7, 0, none⟩)), (8, .int .i64 (N : Int)), (11, .int .i64 (i : Int)), (12, .pointer (some ⟨x, 0, none⟩))]) (by simp only [List.forall_mem_cons, vcT, wantedA, kp, kp2, kpS, kr, k1, k2, kL, kLP, kFn, kFn2, kSl, kSl2, kSl3, kC2, kP0, kP1, ev, evs, evParts, evO, Nat.reduceLT, Nat.reduceEqDiff, reduceIte, fr0, okConst, okc, appendA, cellsA, boxA, allocA, storeA, loadA, fieldA, indexA, fieldV, indexV, partA, extractA, nilA, binA, intBin, unA, lenA, isAggD, isConst, Nat.reduceAdd, Nat.reduceMul, Nat.reduceLeDiff, Nat.reduceSub, Nat.reduceBEq, splice, reduceCtorEq, Int.reduceEq, Int.reduceLT, Int.reduceLE, Int.reduceNeg, Int.reduceBEq, String.reduceEq, eqFlat, tf, aOpI, frL_cons]; simp)) ?_
    obtain ⟨u, S6, a1, a2, a3, a4, hi6⟩ := hi.rec_ (isRF o) (x := rdRec r) (by dsimp only; omega)
    simp only [Rec.cells, rdRec] at a1
    have hset : (frmC { f2 with rs := rs } vm vr).set 8 u = frmC { f2 with rs := rs ++ [rdRec r] } vm u := rfl
    have hfr := hi.fr
    have hfrR := at_old hfr [.row 81 true (rdRec r).cells]
    have htR := at_old ht [.row 81 true (rdRec r).cells]
    simp only [Rec.cells, rdRec] at hfrR htR
    have f8c : (frmC { f2 with rs := rs } vm vr)[8]? = some vr := rfl
    refine AWp.regionK tok fun K hK => ?_
    simp -implicitDefEqProofs only [vcT, wantedA, kp, kp2, kpS, kr, k1, k2, kL, kLP, kFn, kFn2, kSl, kSl2, kSl3, kC2, kP0, kP1, ev, evs, evParts, evO, Nat.reduceLT, Nat.reduceEqDiff, reduceIte, fr0, okConst, okc, cellsA, boxA, allocA, storeA, loadA, fieldA, indexA, fieldV, indexV, partA, extractA, nilA, binA, intBin, unA, lenA, isAggD, isConst, Nat.reduceAdd, Nat.reduceMul, Nat.reduceLeDiff, Nat.reduceSub, Nat.reduceBEq, splice, reduceCtorEq, Int.reduceEq, Int.reduceLT, Int.reduceLE, Int.reduceNeg, Int.reduceBEq, String.reduceEq, eqFlat, tf, aOpI, frL_cons, ht, hfr, hfrR, htR, f8c, bs32_1, a1, a2, a3, a4, ty34, ty32, ty81, frmC_len, hset, List.drop_succ_cons, List.drop_zero]
    refine hK _ _ ?_
    clear hK
    refine hK1 _ _ ?_
    clear hK1
    refine AWp.regionK tok fun K hK => ?_
    simp -implicitDefEqProofs only [vcT, wantedA, kp, kp2, kpS, kr, k1, k2, kL, kLP, kFn, kFn2, kSl, kSl2, kSl3, kC2, kP0, kP1, ev, evs, evParts, evO, Nat.reduceLT, Nat.reduceEqDiff, reduceIte, fr0, okConst, okc, appendA, cellsA, boxA, allocA, storeA, loadA, fieldA, indexA, fieldV, indexV, partA, extractA, nilA, binA, intBin, unA, lenA, isAggD, isConst, Nat.reduceAdd, Nat.reduceMul, Nat.reduceLeDiff, Nat.reduceSub, Nat.reduceBEq, splice, reduceCtorEq, Int.reduceEq, Int.reduceLT, Int.reduceLE, Int.reduceNeg, Int.reduceBEq, String.reduceEq, eqFlat, tf, aOpI, frL_cons, w0]
    refine hK _ _ ?_
    clear hK
    exact ⟨q, _, _, by omega, Wk.frame (by simp only [List.forall_mem_cons, vcT, wantedA, kp, kp2, kpS, kr, k1, k2, kL, kLP, kFn, kFn2, kSl, kSl2, kSl3, kC2, kP0, kP1, ev, evs, evParts, evO, Nat.reduceLT, Nat.reduceEqDiff, reduceIte, fr0, okConst, okc, appendA, cellsA, boxA, allocA, storeA, loadA, fieldA, indexA, fieldV, indexV, partA, extractA, nilA, binA, intBin, unA, lenA, isAggD, isConst, Nat.reduceAdd, Nat.reduceMul, Nat.reduceLeDiff, Nat.reduceSub, Nat.reduceBEq, splice, reduceCtorEq, Int.reduceEq, Int.reduceLT, Int.reduceLE, Int.reduceNeg, Int.reduceBEq, String.reduceEq, eqFlat, tf, aOpI, frL_cons]; simp), _, _, u, i + 1, by omega, hG', by simp; omega, hi6, rfl⟩
  clear hK0
  refine AWp.loopW (fun q fr S2 => ∃ (r : Rd) (ms : List Msg) (vm : Value) (i : Nat), q + i = N ∧ G = rdM q r ms ∧ ms.length + q ≤ 255 ∧ DecI (RF o) S S2 o r o7 { f0 with ms := ms } vm (.slice none 0 0) ∧ fr = frL [(2, .pointer (some ⟨S.length, 0, none⟩)), (3, .string ⟨#[]⟩), (6, .pointer (some ⟨o, 0, none⟩)), (7, .pointer (some ⟨o7, 0, none⟩)), (8, .int .i64 (N : Int)), (9, .int .i64 (i : Int))]) N
    ⟨_, _, Wk.frame ?_, r1.takeR 1, [], .slice none 0 0, 0, rfl, hG, by simp; omega, by rw [← hf0m]; exact hi, rfl⟩ ?_
  · simp only [List.forall_mem_cons, vcT, wantedA, kp, kp2, kpS, kr, k1, k2, kL, kLP, kFn, kFn2, kSl, kSl2, kSl3, kC2, kP0, kP1, ev, evs, evParts, evO, Nat.reduceLT, Nat.reduceEqDiff, reduceIte, fr0, okConst, okc, appendA, cellsA, boxA, allocA, storeA, loadA, fieldA, indexA, fieldV, indexV, partA, extractA, nilA, binA, intBin, unA, lenA, isAggD, isConst, Nat.reduceAdd, Nat.reduceMul, Nat.reduceLeDiff, Nat.reduceSub, Nat.reduceBEq, splice, reduceCtorEq, Int.reduceEq, Int.reduceLT, Int.reduceLE, Int.reduceNeg, Int.reduceBEq, String.reduceEq, eqFlat, tf, aOpI, frL_cons]
    simp
  have hN1 : N < 256 := by simpa using hn255
  clear hi hG hn255
  rintro q fr S2 ⟨r, ms, vm, i, hqi, hG, hql, hi, rfl⟩
  refine AWp.seqK fun K1 hK1 => ?_
  obtain ⟨ob, hro⟩ := hi.rd.row
  have hzz := hi.rd.errZ
  rcases Nat.eq_zero_or_pos q with rfl | hq0
  · have g0 : ¬ ((i : Int) < (N : Int)) := by omega
    refine AWp.seq_region tok fun K hK => ?_
    simp -implicitDefEqProofs only [vcT, wantedA, kp, kp2, kpS, kr, k1, k2, kL, kLP, kFn, kFn2, kSl, kSl2, kSl3, kC2, kP0, kP1, ev, evs, evParts, evO, Nat.reduceLT, Nat.reduceEqDiff, reduceIte, fr0, okConst, okc, appendA, cellsA, boxA, allocA, storeA, loadA, fieldA, indexA, fieldV, indexV, partA, extractA, nilA, binA, intBin, unA, lenA, isAggD, isConst, Nat.reduceAdd, Nat.reduceMul, Nat.reduceLeDiff, Nat.reduceSub, Nat.reduceBEq, splice, reduceCtorEq, Int.reduceEq, Int.reduceLT, Int.reduceLE, Int.reduceNeg, Int.reduceBEq, String.reduceEq, eqFlat, tf, aOpI, frL_cons, g0]
    refine hK _ _ ?_
    clear hK
    refine AWp.condF (by simp -implicitDefEqProofs only [vcT, wantedA, kp, kp2, kpS, kr, k1, k2, kL, kLP, kFn, kFn2, kSl, kSl2, kSl3, kC2, kP0, kP1, ev, evs, evParts, evO, Nat.reduceLT, Nat.reduceEqDiff, reduceIte, fr0, okConst, okc, appendA, cellsA, boxA, allocA, storeA, loadA, fieldA, indexA, fieldV, indexV, partA, extractA, nilA, binA, intBin, unA, lenA, isAggD, isConst, Nat.reduceAdd, Nat.reduceMul, Nat.reduceLeDiff, Nat.reduceSub, Nat.reduceBEq, splice, reduceCtorEq, Int.reduceEq, Int.reduceLT, Int.reduceLE, Int.reduceNeg, Int.reduceBEq, String.reduceEq, eqFlat, tf, aOpI]) ?_
    refine AWp.exit ?_
    simp only [ThenA, BlockA, if_true]
    refine hgo _ _ r ms vm hi hG (by omega) ?_ ?_ ?_ ?_
    all_goals simp only [vcT, wantedA, kp, kp2, kpS, kr, k1, k2, kL, kLP, kFn, kFn2, kSl, kSl2, kSl3, kC2, kP0, kP1, ev, evs, evParts, evO, Nat.reduceLT, Nat.reduceEqDiff, reduceIte, fr0, okConst, okc, appendA, cellsA, boxA, allocA, storeA, loadA, fieldA, indexA, fieldV, indexV, partA, extractA, nilA, binA, intBin, unA, lenA, isAggD, isConst, Nat.reduceAdd, Nat.reduceMul, Nat.reduceLeDiff, Nat.reduceSub, Nat.reduceBEq, splice, reduceCtorEq, Int.reduceEq, Int.reduceLT, Int.reduceLE, Int.reduceNeg, Int.reduceBEq, String.reduceEq, eqFlat, tf, aOpI, frL_cons]
  have g0 : (i : Int) < (N : Int) := by omega
  by_cases he : r.err = none
  rotate_left
  · have hz : ¬ (errT r.err).size = 0 := fun q => he (hzz.1 q)
    refine AWp.seq_region tok fun K hK => ?_
    simp -implicitDefEqProofs only [vcT, wantedA, kp, kp2, kpS, kr, k1, k2, kL, kLP, kFn, kFn2, kSl, kSl2, kSl3, kC2, kP0, kP1, ev, evs, evParts, evO, Nat.reduceLT, Nat.reduceEqDiff, reduceIte, fr0, okConst, okc, appendA, cellsA, boxA, allocA, storeA, loadA, fieldA, indexA, fieldV, indexV, partA, extractA, nilA, binA, intBin, unA, lenA, isAggD, isConst, Nat.reduceAdd, Nat.reduceMul, Nat.reduceLeDiff, Nat.reduceSub, Nat.reduceBEq, splice, reduceCtorEq, Int.reduceEq, Int.reduceLT, Int.reduceLE, Int.reduceNeg, Int.reduceBEq, String.reduceEq, eqFlat, tf, aOpI, frL_cons, g0, hro, ty86, ty88, ty9, strBin, toList_empty, hz, decide_false]
    refine hK _ _ ?_
    clear hK
    refine AWp.condF (by simp -implicitDefEqProofs only [vcT, wantedA, kp, kp2, kpS, kr, k1, k2, kL, kLP, kFn, kFn2, kSl, kSl2, kSl3, kC2, kP0, kP1, ev, evs, evParts, evO, Nat.reduceLT, Nat.reduceEqDiff, reduceIte, fr0, okConst, okc, appendA, cellsA, boxA, allocA, storeA, loadA, fieldA, indexA, fieldV, indexV, partA, extractA, nilA, binA, intBin, unA, lenA, isAggD, isConst, Nat.reduceAdd, Nat.reduceMul, Nat.reduceLeDiff, Nat.reduceSub, Nat.reduceBEq, splice, reduceCtorEq, Int.reduceEq, Int.reduceLT, Int.reduceLE, Int.reduceNeg, Int.reduceBEq, String.reduceEq, eqFlat, tf, aOpI]) ?_
    refine AWp.exit ?_
    simp only [ThenA, BlockA, if_true]
    have hG' : G = (ms, r) := by
      rw [hG]
      cases q with
      | zero => rfl
      | succ q => unfold rdM; rw [if_neg he]
    refine hgo _ _ r ms vm hi hG' (by omega) ?_ ?_ ?_ ?_
    all_goals simp only [vcT, wantedA, kp, kp2, kpS, kr, k1, k2, kL, kLP, kFn, kFn2, kSl, kSl2, kSl3, kC2, kP0, kP1, ev, evs, evParts, evO, Nat.reduceLT, Nat.reduceEqDiff, reduceIte, fr0, okConst, okc, appendA, cellsA, boxA, allocA, storeA, loadA, fieldA, indexA, fieldV, indexV, partA, extractA, nilA, binA, intBin, unA, lenA, isAggD, isConst, Nat.reduceAdd, Nat.reduceMul, Nat.reduceLeDiff, Nat.reduceSub, Nat.reduceBEq, splice, reduceCtorEq, Int.reduceEq, Int.reduceLT, Int.reduceLE, Int.reduceNeg, Int.reduceBEq, String.reduceEq, eqFlat, tf, aOpI, frL_cons]
  have hz : (errT r.err).size = 0 := hzz.2 he
  refine AWp.seq_region tok fun K hK => ?_
  simp -implicitDefEqProofs only [vcT, wantedA, kp, kp2, kpS, kr, k1, k2, kL, kLP, kFn, kFn2, kSl, kSl2, kSl3, kC2, kP0, kP1, ev, evs, evParts, evO, Nat.reduceLT, Nat.reduceEqDiff, reduceIte, fr0, okConst, okc, appendA, cellsA, boxA, allocA, storeA, loadA, fieldA, indexA, fieldV, indexV, partA, extractA, nilA, binA, intBin, unA, lenA, isAggD, isConst, Nat.reduceAdd, Nat.reduceMul, Nat.reduceLeDiff, Nat.reduceSub, Nat.reduceBEq, splice, reduceCtorEq, Int.reduceEq, Int.reduceLT, Int.reduceLE, Int.reduceNeg, Int.reduceBEq, String.reduceEq, eqFlat, tf, aOpI, frL_cons, g0, hro, ty86, ty88, ty9, strBin, toList_empty, hz, decide_true]
  refine hK _ _ ?_
  clear hK
  refine AWp.condT (by simp -implicitDefEqProofs only [vcT, wantedA, kp, kp2, kpS, kr, k1, k2, kL, kLP, kFn, kFn2, kSl, kSl2, kSl3, kC2, kP0, kP1, ev, evs, evParts, evO, Nat.reduceLT, Nat.reduceEqDiff, reduceIte, fr0, okConst, okc, appendA, cellsA, boxA, allocA, storeA, loadA, fieldA, indexA, fieldV, indexV, partA, extractA, nilA, binA, intBin, unA, lenA, isAggD, isConst, Nat.reduceAdd, Nat.reduceMul, Nat.reduceLeDiff, Nat.reduceSub, Nat.reduceBEq, splice, reduceCtorEq, Int.reduceEq, Int.reduceLT, Int.reduceLE, Int.reduceNeg, Int.reduceBEq, String.reduceEq, eqFlat, tf, aOpI]) ?_
  refine AWp.skip ?_
  refine hK1 _ _ ?_
  clear hK1
  clear hgo hro hzz hz
  obtain ⟨q, rfl⟩ : ∃ k, q = k + 1 := ⟨q - 1, by omega⟩
  have hG' : G = rdM q (r.takeR 1).textR (ms ++ [⟨((r.takeV 1 : Nat) : Int), (r.takeR 1).textL⟩]) := by
    rw [hG]
    conv => lhs; unfold rdM
    rw [if_pos he]
  have w0 : IntKind.wrap .i64 ((i : Int) + 1) = ((i + 1 : Nat) : Int) := by rw [IntKind.wrap_i64]; omega
  have w1 := wtakeI hi.rd.ok
  refine AWp.seqK fun K1 hK1 => ?_
  refine AWp.block ?_
  refine AWp.seq_region tok fun K hK => ?_
  refine aList_cut 1 fun K1 hK1 => ?_
  simp -implicitDefEqProofs only [vcT, wantedA, kp, kp2, kpS, kr, k1, k2, kL, kLP, kFn, kFn2, kSl, kSl2, kSl3, kC2, kP0, kP1, ev, evs, evParts, evO, Nat.reduceLT, Nat.reduceEqDiff, reduceIte, fr0, okConst, okc, appendA, cellsA, boxA, allocA, storeA, loadA, fieldA, indexA, fieldV, indexV, partA, extractA, nilA, binA, intBin, unA, lenA, isAggD, isConst, Nat.reduceAdd, Nat.reduceMul, Nat.reduceLeDiff, Nat.reduceSub, Nat.reduceBEq, splice, reduceCtorEq, Int.reduceEq, Int.reduceLT, Int.reduceLE, Int.reduceNeg, Int.reduceBEq, String.reduceEq, eqFlat, tf, aOpI, frL_cons]
  refine hK1 _ _ ?_
  clear hK1
  refine aList_cut 1 fun K1 hK1 => ?_
  simp -implicitDefEqProofs only [vcT, wantedA, kp, kp2, kpS, kr, k1, k2, kL, kLP, kFn, kFn2, kSl, kSl2, kSl3, kC2, kP0, kP1, ev, evs, evParts, evO, Nat.reduceLT, Nat.reduceEqDiff, reduceIte, fr0, okConst, okc, appendA, cellsA, boxA, allocA, storeA, loadA, fieldA, indexA, fieldV, indexV, partA, extractA, nilA, binA, intBin, unA, lenA, isAggD, isConst, Nat.reduceAdd, Nat.reduceMul, Nat.reduceLeDiff, Nat.reduceSub, Nat.reduceBEq, splice, reduceCtorEq, Int.reduceEq, Int.reduceLT, Int.reduceLE, Int.reduceNeg, Int.reduceBEq, String.reduceEq, eqFlat, tf, aOpI, Array.toList_empty, List.drop_succ_cons, List.drop_zero, frL_cons]
  refine (ftake1 hi.rd).mono ?_
  rintro x S4 ⟨rfl, hm, hr⟩
  replace hi := hi.read (isRF o) hm hr
  clear hm hr
  refine hK1 _ _ ?_
  clear hK1
  simp -implicitDefEqProofs only [vcT, wantedA, kp, kp2, kpS, kr, k1, k2, kL, kLP, kFn, kFn2, kSl, kSl2, kSl3, kC2, kP0, kP1, ev, evs, evParts, evO, Nat.reduceLT, Nat.reduceEqDiff, reduceIte, fr0, okConst, okc, appendA, cellsA, boxA, allocA, storeA, loadA, fieldA, indexA, fieldV, indexV, partA, extractA, nilA, binA, intBin, unA, lenA, isAggD, isConst, Nat.reduceAdd, Nat.reduceMul, Nat.reduceLeDiff, Nat.reduceSub, Nat.reduceBEq, splice, reduceCtorEq, Int.reduceEq, Int.reduceLT, Int.reduceLE, Int.reduceNeg, Int.reduceBEq, String.reduceEq, eqFlat, tf, aOpI, frL_cons, ty24, ty3, convA, w1, List.drop_succ_cons, List.drop_zero]
  refine hK _ _ ?_
  clear hK
  refine AWp.weak (Wk.fr (l := [(2, .pointer (some ⟨S.length, 0, none⟩)), (3, .string ⟨#[]⟩), (6, .pointer (some ⟨o, 0, none⟩)), (7, .pointer (some ⟨o7, 0, none⟩)), (8, .int .i64 (N : Int)), (9, .int .i64 (i : Int)), (10, .int .i64 ((r.takeV 1 : Nat) : Int))]) (by simp only [List.forall_mem_cons, vcT, wantedA, kp, kp2, kpS, kr, k1, k2, kL, kLP, kFn, kFn2, kSl, kSl2, kSl3, kC2, kP0, kP1, ev, evs, evParts, evO, Nat.reduceLT, Nat.reduceEqDiff, reduceIte, fr0, okConst, okc, appendA, cellsA, boxA, allocA, storeA, loadA, fieldA, indexA, fieldV, indexV, partA, extractA, nilA, binA, intBin, unA, lenA, isAggD, isConst, Nat.reduceAdd, Nat.reduceMul, Nat.reduceLeDiff, Nat.reduceSub, Nat.reduceBEq, splice, reduceCtorEq, Int.reduceEq, Int.reduceLT, Int.reduceLE, Int.reduceNeg, Int.reduceBEq, String.reduceEq, eqFlat, tf, aOpI, frL_cons]; simp)) ?_
  have t0 := onlyT_get o7 (.row 34 true (frmC { f0 with ms := ms } vm (.slice none 0 0)))
  have f3c : (frmC { f0 with ms := ms } vm (.slice none 0 0))[3]? = some vm := rfl
  refine AWp.drawK tok mixed [(0, 3), (1, 0), (2, 3), (3, 1), (4, 1), (5, 1), (6, 1), (7, 2), (8, 2), (9, 2)] (onlyT o7 (.row 34 true (frmC { f0 with ms := ms } vm (.slice none 0 0)))) (by kernel_rfl) (onlyT_le hi.fr) fun K hK => ?_
  have t4 := eq_true (onlyT_le hi.fr)
  refine aPlan_cut 4 fun K1 hK1 => ?_
  simp -implicitDefEqProofs only [vcT, wantedA, kp, kp2, kpS, kr, k1, k2, kL, kLP, kFn, kFn2, kSl, kSl2, kSl3, kC2, kP0, kP1, ev, evs, evParts, evO, Nat.reduceLT, Nat.reduceEqDiff, reduceIte, fr0, okConst, okc, appendA, cellsA, boxA, allocA, storeA, loadA, fieldA, indexA, fieldV, indexV, partA, extractA, nilA, binA, intBin, unA, lenA, isAggD, isConst, Nat.reduceAdd, Nat.reduceMul, Nat.reduceLeDiff, Nat.reduceSub, Nat.reduceBEq, splice, reduceCtorEq, Int.reduceEq, Int.reduceLT, Int.reduceLE, Int.reduceNeg, Int.reduceBEq, String.reduceEq, eqFlat, tf, aOpI, frL_cons, ty34, ty27, t0, f3c, t4]
  refine hK1 _ _ ?_
  clear hK1
  refine aPlan_cut 1 fun K1 hK1 => ?_
  simp -implicitDefEqProofs only [vcT, wantedA, kp, kp2, kpS, kr, k1, k2, kL, kLP, kFn, kFn2, kSl, kSl2, kSl3, kC2, kP0, kP1, ev, evs, evParts, evO, Nat.reduceLT, Nat.reduceEqDiff, reduceIte, fr0, okConst, okc, appendA, cellsA, boxA, allocA, storeA, loadA, fieldA, indexA, fieldV, indexV, partA, extractA, nilA, binA, intBin, unA, lenA, isAggD, isConst, Nat.reduceAdd, Nat.reduceMul, Nat.reduceLeDiff, Nat.reduceSub, Nat.reduceBEq, splice, reduceCtorEq, Int.reduceEq, Int.reduceLT, Int.reduceLE, Int.reduceNeg, Int.reduceBEq, String.reduceEq, eqFlat, tf, aOpI, Array.toList_empty]
  refine (ftext hi.rd).mono ?_
  rintro d S5 ⟨hd, hm, hr⟩
  replace hi := hi.read (isRF o) hm hr
  clear hm hr t4
  refine ⟨onlyT_le hi.fr, hK1 _ _ ?_⟩
  clear hK1
  obtain ⟨u, S6, a1, a2, a3, a4, hi6⟩ := hi.msg (isRF o) (m := ⟨((r.takeV 1 : Nat) : Int), (r.takeR 1).textL⟩) hd (by dsimp only; omega)
  dsimp only at a1 a2 hi6
  have t1 := eq_true (onlyT_le (at_old hi.fr [.row 77 true [.int .i64 ((r.takeV 1 : Nat) : Int), d]]))
  have t2 := eq_true (onlyT_le a2)
  have t3 := eq_true (onlyT_le hi.fr)
  have hb77 := bd77 hd ((r.takeV 1 : Nat) : Int)
  have hs77 := bs27_1 hd ((r.takeV 1 : Nat) : Int)
  have hset : (frmC { f0 with ms := ms } vm (.slice none 0 0)).set 3 u = frmC { f0 with ms := ms ++ [⟨((r.takeV 1 : Nat) : Int), (r.takeR 1).textL⟩] } u (.slice none 0 0) := rfl
  simp -implicitDefEqProofs only [vcT, wantedA, kp, kp2, kpS, kr, k1, k2, kL, kLP, kFn, kFn2, kSl, kSl2, kSl3, kC2, kP0, kP1, ev, evs, evParts, evO, Nat.reduceLT, Nat.reduceEqDiff, reduceIte, fr0, okConst, okc, cellsA, boxA, allocA, storeA, loadA, fieldA, indexA, fieldV, indexV, partA, extractA, nilA, binA, intBin, unA, lenA, isAggD, isConst, Nat.reduceAdd, Nat.reduceMul, Nat.reduceLeDiff, Nat.reduceSub, Nat.reduceBEq, splice, reduceCtorEq, Int.reduceEq, Int.reduceLT, Int.reduceLE, Int.reduceNeg, Int.reduceBEq, String.reduceEq, eqFlat, tf, aOpI, frL_cons, hb77, hs77, t1, t2, t3, a1, a2, a3, a4, ty34, ty27, frmC_len, hset, List.drop_succ_cons, List.drop_zero]
  refine hK _ _ ?_
  clear hK
  refine hK1 _ _ ?_
  clear hK1
  refine AWp.regionK tok fun K hK => ?_
  simp -implicitDefEqProofs only [vcT, wantedA, kp, kp2, kpS, kr, k1, k2, kL, kLP, kFn, kFn2, kSl, kSl2, kSl3, kC2, kP0, kP1, ev, evs, evParts, evO, Nat.reduceLT, Nat.reduceEqDiff, reduceIte, fr0, okConst, okc, appendA, cellsA, boxA, allocA, storeA, loadA, fieldA, indexA, fieldV, indexV, partA, extractA, nilA, binA, intBin, unA, lenA, isAggD, isConst, Nat.reduceAdd, Nat.reduceMul, Nat.reduceLeDiff, Nat.reduceSub, Nat.reduceBEq, splice, reduceCtorEq, Int.reduceEq, Int.reduceLT, Int.reduceLE, Int.reduceNeg, Int.reduceBEq, String.reduceEq, eqFlat, tf, aOpI, frL_cons, w0]
  refine hK _ _ ?_
  clear hK
  exact ⟨q, _, _, by omega, Wk.frame (by simp only [List.forall_mem_cons, vcT, wantedA, kp, kp2, kpS, kr, k1, k2, kL, kLP, kFn, kFn2, kSl, kSl2, kSl3, kC2, kP0, kP1, ev, evs, evParts, evO, Nat.reduceLT, Nat.reduceEqDiff, reduceIte, fr0, okConst, okc, appendA, cellsA, boxA, allocA, storeA, loadA, fieldA, indexA, fieldV, indexV, partA, extractA, nilA, binA, intBin, unA, lenA, isAggD, isConst, Nat.reduceAdd, Nat.reduceMul, Nat.reduceLeDiff, Nat.reduceSub, Nat.reduceBEq, splice, reduceCtorEq, Int.reduceEq, Int.reduceLT, Int.reduceLE, Int.reduceNeg, Int.reduceBEq, String.reduceEq, eqFlat, tf, aOpI, frL_cons]; simp), _, _, u, i + 1, by omega, hG', by simp; omega, hi6, rfl⟩
end Go.Proofs.Ytpgiiidnimbdgaa
