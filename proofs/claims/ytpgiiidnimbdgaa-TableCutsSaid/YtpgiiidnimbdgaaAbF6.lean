/- The reader of bytes, walked. -/
import Derived.Test.YtpgiiidnimbdgaaAbF5
namespace Go.Proofs.Ytpgiiidnimbdgaa
open Go.Ab
set_option linter.unusedSimpArgs false
set_option linter.unusedVariables false
set_option maxRecDepth 4000

/-- A reader: bytes, how many were taken, and where they fell short. -/
structure Rd where
  bs : List Nat
  at_ : Nat
  err : Option Nat
def Rd.more (r : Rd) (n : Nat) : Bool := r.err.isNone && decide (n ≤ r.bs.length - r.at_)
def Rd.moreR (r : Rd) (n : Nat) : Rd := if r.err.isNone && !decide (n ≤ r.bs.length - r.at_) then { r with err := some r.at_ } else r
def beV (l : List Nat) : Nat := l.foldl (fun n x => n * 256 + x) 0
def Rd.takeV (r : Rd) (n : Nat) : Nat := if r.more n then beV ((r.bs.drop r.at_).take n) else 0
def Rd.takeR (r : Rd) (n : Nat) : Rd := if r.more n then { r with at_ := r.at_ + n } else r.moreR n
structure Rd.Ok (r : Rd) : Prop where
  le : r.at_ ≤ r.bs.length
  by_ : IsBy r.bs
  len : r.bs.length ≤ 140737488355328
theorem Rd.Ok.more {r : Rd} (h : r.Ok) (n : Nat) : (r.moreR n).Ok := by
  unfold Rd.moreR
  split
  · exact ⟨h.le, h.by_, h.len⟩
  · exact h
theorem Rd.Ok.take {r : Rd} (h : r.Ok) (n : Nat) : (r.takeR n).Ok := by
  unfold Rd.takeR
  split
  · rename_i h1
    simp only [Rd.more, Bool.and_eq_true, decide_eq_true_eq] at h1
    exact ⟨by have := h.le; dsimp only; omega, h.by_, h.len⟩
  · exact h.more n
theorem Rd.moreR_bs (r : Rd) (n : Nat) : (r.moreR n).bs = r.bs := by unfold Rd.moreR; split <;> rfl
theorem Rd.moreR_at (r : Rd) (n : Nat) : (r.moreR n).at_ = r.at_ := by unfold Rd.moreR; split <;> rfl
theorem Rd.takeR_bs (r : Rd) (n : Nat) : (r.takeR n).bs = r.bs := by unfold Rd.takeR; split; rfl; exact r.moreR_bs n

/-- All objects but one stand as they were. -/
def ModO (o : Nat) (S S' : St) : Prop := S.length ≤ S'.length ∧ ∀ j, j < S.length → j ≠ o → S'[j]? = S[j]?
theorem ModO.refl (o : Nat) (S : St) : ModO o S S := ⟨Nat.le_refl _, fun _ _ _ => rfl⟩
theorem ModO.trans {o : Nat} {S S' S'' : St} (h : ModO o S S') (h' : ModO o S' S'') : ModO o S S'' :=
  ⟨Nat.le_trans h.1 h'.1, fun j hj hne => (h'.2 j (Nat.lt_of_lt_of_le hj h.1) hne).trans (h.2 j hj hne)⟩
theorem ModO.of_keeps {o : Nat} {S S' : St} (h : Keeps S S') : ModO o S S' := ⟨h.1, fun j hj _ => h.2 j hj⟩
theorem ModO.set (o : Nat) (S : St) (x : AObj) : ModO o S (S.set o x) := ⟨by simp, fun j hj hne => List.getElem?_set_ne (Ne.symm hne)⟩
theorem ModO.keeps {o : Nat} {S0 S S' : St} (h : ModO o S S') (hk : Keeps S0 S) (ho : S0.length ≤ o) : Keeps S0 S' :=
  ⟨Nat.le_trans hk.1 h.1, fun j hj => (h.2 j (Nat.lt_of_lt_of_le hj hk.1) (by omega)).trans (hk.2 j hj)⟩
theorem ModO.get {o : Nat} {S S' : St} (h : ModO o S S') {j : Nat} {x : AObj} (hj : S[j]? = some x) (hne : j ≠ o) : S'[j]? = some x := by
  rw [h.2 j (List.getElem?_eq_some_iff.1 hj).1 hne]; exact hj
theorem SlB.modO {o : Nat} {S S' : St} (h : ModO o S S') {v : Value} {l : List Nat} (hv : SlB S v l) {ty : TypeId} {rw : Bool} {cs : List Value} (ho : S[o]? = some (.row ty rw cs)) (hty : ty ≠ 5) : SlB S' v l := by
  rcases hv.h with ⟨h1, h2⟩ | ⟨a, k, s, rw', cs', h1, h2, h3⟩
  · exact ⟨.inl ⟨h1, h2⟩⟩
  · refine ⟨.inr ⟨a, k, s, rw', cs', h1, h.get h2 (fun e => ?_), h3⟩⟩
    subst e
    rw [h2] at ho
    cases ho
    exact hty rfl
theorem OwB.modO {o n : Nat} {S S' : St} (h : ModO o S S') {v : Value} {l : List Nat} (hv : OwB S n v l) {ty : TypeId} {rw : Bool} {cs : List Value} (ho : S[o]? = some (.row ty rw cs)) (hty : ty ≠ 5) : OwB S' n v l := by
  obtain ⟨a, h1, h2, h3⟩ := hv
  refine ⟨a, h1, h2, h.get h3 (fun e => ?_)⟩
  subst e
  rw [h3] at ho
  cases ho
  exact hty rfl

/-- The reader's error, as it lies. -/
def ErrS (S : St) (v : Value) : Option Nat → Prop
  | none => v = .nilIface
  | some a => ∃ oe, v = .iface 94 (.pointer (some ⟨oe, 0, none⟩)) ∧ S[oe]? = some (.row 96 true [.int .i64 4, .int .i64 (a : Int), .nilIface])
def rdCells (ob : Nat) (r : Rd) (er : Value) : List Value := [.slice (some ⟨ob, 0, none⟩) r.bs.length 1, .int .i64 (r.at_ : Int), er]
/-- A reader lies so. -/
structure RdAt (S : St) (o : Nat) (r : Rd) (ob : Nat) (er : Value) : Prop where
  row : S[o]? = some (.row 117 true (rdCells ob r er))
  bytes : S[ob]? = some (.row 5 true (bys r.bs))
  err : ErrS S er r.err
  ok : r.Ok
theorem RdAt.ne {S : St} {o : Nat} {r : Rd} {ob : Nat} {er : Value} (h : RdAt S o r ob er) : ob ≠ o := by
  rintro rfl
  have h1 := h.row
  rw [h.bytes] at h1
  cases h1
theorem ErrS.modO {o : Nat} {S S' : St} (h : ModO o S S') {v : Value} {e : Option Nat} (hv : ErrS S v e) {ty : TypeId} {rw : Bool} {cs : List Value} (ho : S[o]? = some (.row ty rw cs)) (hty : ty ≠ 96) : ErrS S' v e := by
  cases e with
  | none => exact hv
  | some a =>
    obtain ⟨oe, h1, h2⟩ := hv
    refine ⟨oe, h1, h.get h2 (fun e => ?_)⟩
    subst e
    rw [h2] at ho
    cases ho
    exact hty rfl
/-- A reader is not touched by what is done to an object of another kind. -/
theorem RdAt.modO {S S' : St} {o : Nat} {r : Rd} {ob : Nat} {er : Value} (h : RdAt S o r ob er) {o' : Nat} (hm : ModO o' S S') {ty : TypeId} {rw : Bool} {cs : List Value} (ho : S[o']? = some (.row ty rw cs)) (h1 : ty ≠ 117) (h2 : ty ≠ 5) (h3 : ty ≠ 96) : RdAt S' o r ob er := by
  refine ⟨hm.get h.row (fun e => ?_), hm.get h.bytes (fun e => ?_), h.err.modO hm ho h3, h.ok⟩
  · subst e
    have := h.row
    rw [this] at ho
    cases ho
    exact h1 rfl
  · subst e
    have := h.bytes
    rw [this] at ho
    cases ho
    exact h2 rfl
theorem RdAt.keeps {S S' : St} {o : Nat} {r : Rd} {ob : Nat} {er : Value} (h : RdAt S o r ob er) (hk : Keeps S S') : RdAt S' o r ob er := by
  refine ⟨hk.get h.row, hk.get h.bytes, ?_, h.ok⟩
  have := h.err
  cases hr : r.err with
  | none => rw [hr] at this; exact this
  | some a =>
    rw [hr] at this
    obtain ⟨oe, h1, h2⟩ := this
    exact ⟨oe, h1, hk.get h2⟩
/-- A reader whose row is written: it has taken more. -/
theorem RdAt.put {S : St} {o : Nat} {r : Rd} {ob : Nat} {er : Value} (h : RdAt S o r ob er) (a : Nat) (ha : a ≤ r.bs.length) : RdAt (S.set o (.row 117 true (rdCells ob { r with at_ := a } er))) o { r with at_ := a } ob er := by
  have hl := (List.getElem?_eq_some_iff.1 h.row).1
  refine ⟨List.getElem?_set_self hl, ?_, h.err.modO (ModO.set _ _ _) h.row (by decide), ⟨ha, h.ok.by_, h.ok.len⟩⟩
  rw [List.getElem?_set_ne (Ne.symm h.ne)]
  exact h.bytes
theorem set_self {S : St} {o : Nat} {x : AObj} (h : S[o]? = some x) : S.set o x = S := by
  refine List.ext_getElem? fun i => ?_
  by_cases hi : i = o
  · subst hi
    rw [List.getElem?_set_self (List.getElem?_eq_some_iff.1 h).1, h]
  · rw [List.getElem?_set_ne (Ne.symm hi)]

theorem bd117 (o n : Nat) : buildA TT 117 [(0, .slice (some ⟨o, 0, none⟩) n 1)] = some (.agg #[.slice (some ⟨o, 0, none⟩) n 1, .int .i64 0, .nilIface]) := by kernel_rfl

theorem enter29 (cargs : Array Value) (w : World) : (callFunc 29 cargs).run Try.prog w = .ok (.enter 29 cargs) w := by kernel_rfl
theorem call29 {S : St} {v : Value} {l : List Nat} (hv : SlB S v l) (hl : IsBy l) (hln : l.length ≤ 140737488355324) :
    ACalls Try.prog 29 [v] S (fun x S' => Keeps S S' ∧ x = .pointer (some ⟨S.length + 2, 0, none⟩) ∧ RdAt S' (S.length + 2) ⟨l, 0, none⟩ (S.length + 1) .nilIface) := by
  refine ACalls.of tok enter29 Try.func29 rfl (m := 8) rfl (by simp) (rs := [.tmp 2]) rfl fun hc ha => ?_
  clear ha
  have hc1 : ∀ R, cellsA (S ++ R) 1 v = some (l.length, bys l) := fun R => (hv.append R).cells
  have k1' : l.length ≤ 140737488355328 := by omega
  have k2' : l.length ≤ 9223372036854775807 := by omega
  refine AWp.seq_region tok fun K hK => ?_
  simp -implicitDefEqProofs only [vcT, wantedA, kp, kp2, kpS, kr, k1, k2, kL, kLP, kFn, kFn2, kSl, kSl2, kSl3, kC2, kP0, kP1, ev, evs, evParts, evO, Nat.reduceLT, Nat.reduceEqDiff, reduceIte, fr0, okConst, okc, appendA, cellsA, boxA, allocA, storeA, loadA, fieldA, indexA, fieldV, indexV, partA, extractA, nilA, binA, intBin, unA, lenA, isAggD, isConst, Nat.reduceAdd, Nat.reduceMul, Nat.reduceLeDiff, Nat.reduceSub, Nat.reduceBEq, splice, reduceCtorEq, Int.reduceEq, Int.reduceLT, Int.reduceLE, Int.reduceNeg, Int.reduceBEq, String.reduceEq, eqFlat, tf, aOpI]
  refine hK _ _ ?_
  clear hK
  refine AWp.seq_region tok fun K hK => ?_
  simp -implicitDefEqProofs only [vcT, wantedA, kp, kp2, kpS, kr, k1, k2, kL, kLP, kFn, kFn2, kSl, kSl2, kSl3, kC2, kP0, kP1, ev, evs, evParts, evO, Nat.reduceLT, Nat.reduceEqDiff, reduceIte, fr0, okConst, okc, appendA, boxA, allocA, storeA, loadA, fieldA, indexA, fieldV, indexV, partA, extractA, nilA, binA, intBin, unA, lenA, isAggD, isConst, Nat.reduceAdd, Nat.reduceMul, Nat.reduceLeDiff, Nat.reduceSub, Nat.reduceBEq, splice, reduceCtorEq, Int.reduceEq, Int.reduceLT, Int.reduceLE, Int.reduceNeg, Int.reduceBEq, String.reduceEq, eqFlat, tf, aOpI, bs22_0, ty22, ty5, hc1, k1', k2', bd117, Nat.mul_one]
  refine hK _ _ ?_
  clear hK
  refine AWp.ret ?_
  simp -implicitDefEqProofs only [vcT, wantedA, kp, kp2, kpS, kr, k1, k2, kL, kLP, kFn, kFn2, kSl, kSl2, kSl3, kC2, kP0, kP1, ev, evs, evParts, evO, Nat.reduceLT, Nat.reduceEqDiff, reduceIte, fr0, okConst, okc, appendA, cellsA, boxA, allocA, storeA, loadA, fieldA, indexA, fieldV, indexV, partA, extractA, nilA, binA, intBin, unA, lenA, isAggD, isConst, Nat.reduceAdd, Nat.reduceMul, Nat.reduceLeDiff, Nat.reduceSub, Nat.reduceBEq, splice, reduceCtorEq, Int.reduceEq, Int.reduceLT, Int.reduceLE, Int.reduceNeg, Int.reduceBEq, String.reduceEq, eqFlat, tf, aOpI, ThenA, BlockA, EndA, ressA, resA, wrapA]
  exact ⟨Keeps.append _ _, ⟨by simp only [vcT, wantedA, kp, kp2, kpS, kr, k1, k2, kL, kLP, kFn, kFn2, kSl, kSl2, kSl3, kC2, kP0, kP1, ev, evs, evParts, evO, Nat.reduceLT, Nat.reduceEqDiff, reduceIte, fr0, okConst, okc, appendA, cellsA, boxA, allocA, storeA, loadA, fieldA, indexA, fieldV, indexV, partA, extractA, nilA, binA, intBin, unA, lenA, isAggD, isConst, Nat.reduceAdd, Nat.reduceMul, Nat.reduceLeDiff, Nat.reduceSub, Nat.reduceBEq, splice, reduceCtorEq, Int.reduceEq, Int.reduceLT, Int.reduceLE, Int.reduceNeg, Int.reduceBEq, String.reduceEq, eqFlat, tf, aOpI]; rfl, by simp only [vcT, wantedA, kp, kp2, kpS, kr, k1, k2, kL, kLP, kFn, kFn2, kSl, kSl2, kSl3, kC2, kP0, kP1, ev, evs, evParts, evO, Nat.reduceLT, Nat.reduceEqDiff, reduceIte, fr0, okConst, okc, appendA, cellsA, boxA, allocA, storeA, loadA, fieldA, indexA, fieldV, indexV, partA, extractA, nilA, binA, intBin, unA, lenA, isAggD, isConst, Nat.reduceAdd, Nat.reduceMul, Nat.reduceLeDiff, Nat.reduceSub, Nat.reduceBEq, splice, reduceCtorEq, Int.reduceEq, Int.reduceLT, Int.reduceLE, Int.reduceNeg, Int.reduceBEq, String.reduceEq, eqFlat, tf, aOpI], rfl, ⟨Nat.zero_le _, hl, by omega⟩⟩⟩

theorem enter55 (cargs : Array Value) (w : World) : (callFunc 55 cargs).run Try.prog w = .ok (.enter 55 cargs) w := by kernel_rfl
theorem call55 {S : St} {o : Nat} {r : Rd} {ob : Nat} {er : Value} (h : RdAt S o r ob er) (n : Nat) (hn : n ≤ 1000) :
    ACalls Try.prog 55 [.pointer (some ⟨o, 0, none⟩), .int .i64 n] S (fun x S' => x = .bool (r.more n) ∧ ModO o S S' ∧ ∃ er', RdAt S' o (r.moreR n) ob er') := by
  refine ACalls.of tok enter55 Try.func55 rfl (m := 34) rfl (by simp) (rs := [.tmp 4]) rfl fun hc ha => ?_
  clear ha
  have ho := h.row
  have hoR : ∀ R, (S ++ R)[o]? = some (.row 117 true (rdCells ob r er)) := fun R => at_old ho R
  have hrc : rdCells ob r er = [.slice (some ⟨ob, 0, none⟩) r.bs.length 1, .int .i64 (r.at_ : Int), er] := rfl
  have hle := h.ok.le
  have hln := h.ok.len
  refine AWp.seq_region tok fun K hK => ?_
  simp -implicitDefEqProofs only [vcT, wantedA, kp, kp2, kpS, kr, k1, k2, kL, kLP, kFn, kFn2, kSl, kSl2, kSl3, kC2, kP0, kP1, ev, evs, evParts, evO, Nat.reduceLT, Nat.reduceEqDiff, reduceIte, fr0, okConst, okc, appendA, cellsA, boxA, allocA, storeA, loadA, fieldA, indexA, fieldV, indexV, partA, extractA, nilA, binA, intBin, unA, lenA, isAggD, isConst, Nat.reduceAdd, Nat.reduceMul, Nat.reduceLeDiff, Nat.reduceSub, Nat.reduceBEq, splice, reduceCtorEq, Int.reduceEq, Int.reduceLT, Int.reduceLE, Int.reduceNeg, Int.reduceBEq, String.reduceEq, eqFlat, tf, aOpI]
  refine hK _ _ ?_
  clear hK
  refine AWp.seqK fun K0 hK0 => ?_
  cases hr : r.err with
  | some a =>
    have he := h.err
    rw [hr] at he
    obtain ⟨oe, rfl, hoe⟩ := he
    refine AWp.seq_region tok fun K hK => ?_
    simp -implicitDefEqProofs only [vcT, wantedA, kp, kp2, kpS, kr, k1, k2, kL, kLP, kFn, kFn2, kSl, kSl2, kSl3, kC2, kP0, kP1, ev, evs, evParts, evO, Nat.reduceLT, Nat.reduceEqDiff, reduceIte, fr0, okConst, okc, appendA, cellsA, boxA, allocA, storeA, loadA, fieldA, indexA, fieldV, indexV, partA, extractA, nilA, binA, intBin, unA, lenA, isAggD, isConst, Nat.reduceAdd, Nat.reduceMul, Nat.reduceLeDiff, Nat.reduceSub, Nat.reduceBEq, splice, reduceCtorEq, Int.reduceEq, Int.reduceLT, Int.reduceLE, Int.reduceNeg, Int.reduceBEq, String.reduceEq, eqFlat, tf, aOpI, ho, hrc, ty36, ty71, ty117, isPtrD, isIfaceD]
    refine hK _ _ ?_
    clear hK
    refine AWp.condT (by simp -implicitDefEqProofs only [vcT, wantedA, kp, kp2, kpS, kr, k1, k2, kL, kLP, kFn, kFn2, kSl, kSl2, kSl3, kC2, kP0, kP1, ev, evs, evParts, evO, Nat.reduceLT, Nat.reduceEqDiff, reduceIte, fr0, okConst, okc, appendA, cellsA, boxA, allocA, storeA, loadA, fieldA, indexA, fieldV, indexV, partA, extractA, nilA, binA, intBin, unA, lenA, isAggD, isConst, Nat.reduceAdd, Nat.reduceMul, Nat.reduceLeDiff, Nat.reduceSub, Nat.reduceBEq, splice, reduceCtorEq, Int.reduceEq, Int.reduceLT, Int.reduceLE, Int.reduceNeg, Int.reduceBEq, String.reduceEq, eqFlat, tf, aOpI]) ?_
    refine AWp.seq_region tok fun K hK => ?_
    simp -implicitDefEqProofs only [vcT, wantedA, kp, kp2, kpS, kr, k1, k2, kL, kLP, kFn, kFn2, kSl, kSl2, kSl3, kC2, kP0, kP1, ev, evs, evParts, evO, Nat.reduceLT, Nat.reduceEqDiff, reduceIte, fr0, okConst, okc, appendA, cellsA, boxA, allocA, storeA, loadA, fieldA, indexA, fieldV, indexV, partA, extractA, nilA, binA, intBin, unA, lenA, isAggD, isConst, Nat.reduceAdd, Nat.reduceMul, Nat.reduceLeDiff, Nat.reduceSub, Nat.reduceBEq, splice, reduceCtorEq, Int.reduceEq, Int.reduceLT, Int.reduceLE, Int.reduceNeg, Int.reduceBEq, String.reduceEq, eqFlat, tf, aOpI]
    refine hK _ _ ?_
    clear hK
    refine AWp.ret ?_
    simp -implicitDefEqProofs only [vcT, wantedA, kp, kp2, kpS, kr, k1, k2, kL, kLP, kFn, kFn2, kSl, kSl2, kSl3, kC2, kP0, kP1, ev, evs, evParts, evO, Nat.reduceLT, Nat.reduceEqDiff, reduceIte, fr0, okConst, okc, appendA, cellsA, boxA, allocA, storeA, loadA, fieldA, indexA, fieldV, indexV, partA, extractA, nilA, binA, intBin, unA, lenA, isAggD, isConst, Nat.reduceAdd, Nat.reduceMul, Nat.reduceLeDiff, Nat.reduceSub, Nat.reduceBEq, splice, reduceCtorEq, Int.reduceEq, Int.reduceLT, Int.reduceLE, Int.reduceNeg, Int.reduceBEq, String.reduceEq, eqFlat, tf, aOpI, ThenA, BlockA, EndA, ressA, resA, wrapA]
    have e1 : r.more n = false := by simp [Rd.more, hr]
    have e2 : r.moreR n = r := by simp [Rd.moreR, hr]
    rw [e1, e2]
    exact ⟨rfl, ModO.refl _ _, _, h⟩
  | none =>
    have he := h.err
    rw [hr] at he
    obtain rfl : er = .nilIface := he
    refine AWp.seq_region tok fun K hK => ?_
    simp -implicitDefEqProofs only [vcT, wantedA, kp, kp2, kpS, kr, k1, k2, kL, kLP, kFn, kFn2, kSl, kSl2, kSl3, kC2, kP0, kP1, ev, evs, evParts, evO, Nat.reduceLT, Nat.reduceEqDiff, reduceIte, fr0, okConst, okc, appendA, cellsA, boxA, allocA, storeA, loadA, fieldA, indexA, fieldV, indexV, partA, extractA, nilA, binA, intBin, unA, lenA, isAggD, isConst, Nat.reduceAdd, Nat.reduceMul, Nat.reduceLeDiff, Nat.reduceSub, Nat.reduceBEq, splice, reduceCtorEq, Int.reduceEq, Int.reduceLT, Int.reduceLE, Int.reduceNeg, Int.reduceBEq, String.reduceEq, eqFlat, tf, aOpI, ho, hrc, ty36, ty71, ty117, isPtrD, isIfaceD]
    refine hK _ _ ?_
    clear hK
    refine AWp.condF (by simp -implicitDefEqProofs only [vcT, wantedA, kp, kp2, kpS, kr, k1, k2, kL, kLP, kFn, kFn2, kSl, kSl2, kSl3, kC2, kP0, kP1, ev, evs, evParts, evO, Nat.reduceLT, Nat.reduceEqDiff, reduceIte, fr0, okConst, okc, appendA, cellsA, boxA, allocA, storeA, loadA, fieldA, indexA, fieldV, indexV, partA, extractA, nilA, binA, intBin, unA, lenA, isAggD, isConst, Nat.reduceAdd, Nat.reduceMul, Nat.reduceLeDiff, Nat.reduceSub, Nat.reduceBEq, splice, reduceCtorEq, Int.reduceEq, Int.reduceLT, Int.reduceLE, Int.reduceNeg, Int.reduceBEq, String.reduceEq, eqFlat, tf, aOpI]) ?_
    refine AWp.skip ?_
    refine hK0 _ _ ?_
    clear hK0
    have w1 : IntKind.wrap .i64 ((r.bs.length : Int) - (r.at_ : Int)) = ((r.bs.length - r.at_ : Nat) : Int) := by rw [IntKind.wrap_i64]; omega
    refine AWp.seqK fun K0 hK0 => ?_
    refine AWp.seq_draw tok mixed [(0, 3), (1, 3), (2, 3), (3, 3), (4, 0), (5, 3), (6, 1), (7, 1), (8, 1), (9, 1), (10, 1), (11, 1)] _ (by kernel_rfl) (Le.refl _) fun K hK => ?_
    simp -implicitDefEqProofs only [vcT, wantedA, kp, kp2, kpS, kr, k1, k2, kL, kLP, kFn, kFn2, kSl, kSl2, kSl3, kC2, kP0, kP1, ev, evs, evParts, evO, Nat.reduceLT, Nat.reduceEqDiff, reduceIte, fr0, okConst, okc, appendA, cellsA, boxA, allocA, storeA, loadA, fieldA, indexA, fieldV, indexV, partA, extractA, nilA, binA, intBin, unA, lenA, isAggD, isConst, Nat.reduceAdd, Nat.reduceMul, Nat.reduceLeDiff, Nat.reduceSub, Nat.reduceBEq, splice, reduceCtorEq, Int.reduceEq, Int.reduceLT, Int.reduceLE, Int.reduceNeg, Int.reduceBEq, String.reduceEq, eqFlat, tf, aOpI, ho, hrc, ty22, ty3, ty117, w1]
    refine hK _ _ ?_
    clear hK
    refine AWp.condP ((n : Int) > ((r.bs.length - r.at_ : Nat) : Int)) (by simp only [vcT, wantedA, kp, kp2, kpS, kr, k1, k2, kL, kLP, kFn, kFn2, kSl, kSl2, kSl3, kC2, kP0, kP1, ev, evs, evParts, evO, Nat.reduceLT, Nat.reduceEqDiff, reduceIte, fr0, okConst, okc, appendA, cellsA, boxA, allocA, storeA, loadA, fieldA, indexA, fieldV, indexV, partA, extractA, nilA, binA, intBin, unA, lenA, isAggD, isConst, Nat.reduceAdd, Nat.reduceMul, Nat.reduceLeDiff, Nat.reduceSub, Nat.reduceBEq, splice, reduceCtorEq, Int.reduceEq, Int.reduceLT, Int.reduceLE, Int.reduceNeg, Int.reduceBEq, String.reduceEq, eqFlat, tf, aOpI]) (fun h9 => ?_) (fun h9 => ?_)
    · have h9' : ¬ n ≤ r.bs.length - r.at_ := by omega
      refine AWp.seq_region tok fun K hK => ?_
      refine aList_cut 5 fun K1 hK1 => ?_
      simp -implicitDefEqProofs only [vcT, wantedA, kp, kp2, kpS, kr, k1, k2, kL, kLP, kFn, kFn2, kSl, kSl2, kSl3, kC2, kP0, kP1, ev, evs, evParts, evO, Nat.reduceLT, Nat.reduceEqDiff, reduceIte, fr0, okConst, okc, appendA, cellsA, boxA, allocA, storeA, loadA, fieldA, indexA, fieldV, indexV, partA, extractA, nilA, binA, intBin, unA, lenA, isAggD, isConst, Nat.reduceAdd, Nat.reduceMul, Nat.reduceLeDiff, Nat.reduceSub, Nat.reduceBEq, splice, reduceCtorEq, Int.reduceEq, Int.reduceLT, Int.reduceLE, Int.reduceNeg, Int.reduceBEq, String.reduceEq, eqFlat, tf, aOpI, ho, hrc, ty3, ty117]
      refine hK1 _ _ ?_
      clear hK1
      refine aList_cut 1 fun K1 hK1 => ?_
      simp -implicitDefEqProofs only [vcT, wantedA, kp, kp2, kpS, kr, k1, k2, kL, kLP, kFn, kFn2, kSl, kSl2, kSl3, kC2, kP0, kP1, ev, evs, evParts, evO, Nat.reduceLT, Nat.reduceEqDiff, reduceIte, fr0, okConst, okc, appendA, cellsA, boxA, allocA, storeA, loadA, fieldA, indexA, fieldV, indexV, partA, extractA, nilA, binA, intBin, unA, lenA, isAggD, isConst, Nat.reduceAdd, Nat.reduceMul, Nat.reduceLeDiff, Nat.reduceSub, Nat.reduceBEq, splice, reduceCtorEq, Int.reduceEq, Int.reduceLT, Int.reduceLE, Int.reduceNeg, Int.reduceBEq, String.reduceEq, eqFlat, tf, aOpI, Array.toList_empty, List.drop_succ_cons, List.drop_zero]
      refine (call28 4 r.at_ (by decide) _).mono ?_
      rintro x S' ⟨rfl, rfl⟩
      refine hK1 _ _ ?_
      clear hK1
      simp -implicitDefEqProofs only [vcT, wantedA, kp, kp2, kpS, kr, k1, k2, kL, kLP, kFn, kFn2, kSl, kSl2, kSl3, kC2, kP0, kP1, ev, evs, evParts, evO, Nat.reduceLT, Nat.reduceEqDiff, reduceIte, fr0, okConst, okc, appendA, cellsA, boxA, allocA, storeA, loadA, fieldA, indexA, fieldV, indexV, partA, extractA, nilA, binA, intBin, unA, lenA, isAggD, isConst, Nat.reduceAdd, Nat.reduceMul, Nat.reduceLeDiff, Nat.reduceSub, Nat.reduceBEq, splice, reduceCtorEq, Int.reduceEq, Int.reduceLT, Int.reduceLE, Int.reduceNeg, Int.reduceBEq, String.reduceEq, eqFlat, tf, aOpI, hoR, hrc, ty36, ty117, List.drop_succ_cons, List.drop_zero]
      refine hK _ _ ?_
      clear hK
      refine AWp.seq_region tok fun K hK => ?_
      simp -implicitDefEqProofs only [vcT, wantedA, kp, kp2, kpS, kr, k1, k2, kL, kLP, kFn, kFn2, kSl, kSl2, kSl3, kC2, kP0, kP1, ev, evs, evParts, evO, Nat.reduceLT, Nat.reduceEqDiff, reduceIte, fr0, okConst, okc, appendA, cellsA, boxA, allocA, storeA, loadA, fieldA, indexA, fieldV, indexV, partA, extractA, nilA, binA, intBin, unA, lenA, isAggD, isConst, Nat.reduceAdd, Nat.reduceMul, Nat.reduceLeDiff, Nat.reduceSub, Nat.reduceBEq, splice, reduceCtorEq, Int.reduceEq, Int.reduceLT, Int.reduceLE, Int.reduceNeg, Int.reduceBEq, String.reduceEq, eqFlat, tf, aOpI]
      refine hK _ _ ?_
      clear hK
      refine AWp.ret ?_
      simp -implicitDefEqProofs only [vcT, wantedA, kp, kp2, kpS, kr, k1, k2, kL, kLP, kFn, kFn2, kSl, kSl2, kSl3, kC2, kP0, kP1, ev, evs, evParts, evO, Nat.reduceLT, Nat.reduceEqDiff, reduceIte, fr0, okConst, okc, appendA, cellsA, boxA, allocA, storeA, loadA, fieldA, indexA, fieldV, indexV, partA, extractA, nilA, binA, intBin, unA, lenA, isAggD, isConst, Nat.reduceAdd, Nat.reduceMul, Nat.reduceLeDiff, Nat.reduceSub, Nat.reduceBEq, splice, reduceCtorEq, Int.reduceEq, Int.reduceLT, Int.reduceLE, Int.reduceNeg, Int.reduceBEq, String.reduceEq, eqFlat, tf, aOpI, ThenA, BlockA, EndA, ressA, resA, wrapA]
      have e1 : r.more n = false := by simp [Rd.more, h9']
      have e2 : r.moreR n = { r with err := some r.at_ } := by simp [Rd.moreR, hr, h9']
      have e3 : topM (r.at_ : Int) = r.at_ := by unfold topM; rw [if_neg (by omega)]
      rw [e1, e2, e3]
      have hl := (List.getElem?_eq_some_iff.1 ho).1
      refine ⟨rfl, (ModO.of_keeps (Keeps.append S [_])).trans (ModO.set _ _ _), .iface 94 (.pointer (some ⟨S.length, 0, none⟩)), ⟨List.getElem?_set_self (by simp; omega), ?_, ⟨S.length, rfl, ?_⟩, ⟨hle, h.ok.by_, hln⟩⟩⟩
      · rw [List.getElem?_set_ne (Ne.symm h.ne)]
        exact at_old h.bytes _
      · rw [List.getElem?_set_ne (by omega)]
        simp
    · have h9' : n ≤ r.bs.length - r.at_ := by omega
      refine AWp.skip ?_
      refine hK0 _ _ ?_
      clear hK0
      refine AWp.seq_region tok fun K hK => ?_
      simp -implicitDefEqProofs only [vcT, wantedA, kp, kp2, kpS, kr, k1, k2, kL, kLP, kFn, kFn2, kSl, kSl2, kSl3, kC2, kP0, kP1, ev, evs, evParts, evO, Nat.reduceLT, Nat.reduceEqDiff, reduceIte, fr0, okConst, okc, appendA, cellsA, boxA, allocA, storeA, loadA, fieldA, indexA, fieldV, indexV, partA, extractA, nilA, binA, intBin, unA, lenA, isAggD, isConst, Nat.reduceAdd, Nat.reduceMul, Nat.reduceLeDiff, Nat.reduceSub, Nat.reduceBEq, splice, reduceCtorEq, Int.reduceEq, Int.reduceLT, Int.reduceLE, Int.reduceNeg, Int.reduceBEq, String.reduceEq, eqFlat, tf, aOpI]
      refine hK _ _ ?_
      clear hK
      refine AWp.ret ?_
      simp -implicitDefEqProofs only [vcT, wantedA, kp, kp2, kpS, kr, k1, k2, kL, kLP, kFn, kFn2, kSl, kSl2, kSl3, kC2, kP0, kP1, ev, evs, evParts, evO, Nat.reduceLT, Nat.reduceEqDiff, reduceIte, fr0, okConst, okc, appendA, cellsA, boxA, allocA, storeA, loadA, fieldA, indexA, fieldV, indexV, partA, extractA, nilA, binA, intBin, unA, lenA, isAggD, isConst, Nat.reduceAdd, Nat.reduceMul, Nat.reduceLeDiff, Nat.reduceSub, Nat.reduceBEq, splice, reduceCtorEq, Int.reduceEq, Int.reduceLT, Int.reduceLE, Int.reduceNeg, Int.reduceBEq, String.reduceEq, eqFlat, tf, aOpI, ThenA, BlockA, EndA, ressA, resA, wrapA]
      have e1 : r.more n = true := by simp [Rd.more, hr, h9']
      have e2 : r.moreR n = r := by simp [Rd.moreR, h9']
      rw [e1, e2]
      exact ⟨rfl, ModO.refl _ _, _, h⟩
end Go.Proofs.Ytpgiiidnimbdgaa
