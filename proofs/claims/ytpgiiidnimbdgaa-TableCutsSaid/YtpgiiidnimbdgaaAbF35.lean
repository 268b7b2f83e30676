/- Reading tables: walked. -/
import Derived.Test.YtpgiiidnimbdgaaAbF34
namespace Go.Proofs.Ytpgiiidnimbdgaa
open Go.Ab
set_option linter.unusedSimpArgs false
set_option linter.unusedVariables false
set_option maxRecDepth 4000

theorem takeV_lt {r : Rd} (h : r.Ok) {k : Nat} (hk : k ≤ 4) : r.takeV k < 256 ^ k := by
  unfold Rd.takeV
  split
  · exact beV_le (h.by_.drop _) hk
  · exact Nat.pow_pos (by decide)
theorem wI {r : Rd} (h : r.Ok) {k : Nat} (hk : k ≤ 4) : IntKind.wrap .i64 ((r.takeV k : Nat) : Int) = ((r.takeV k : Nat) : Int) := by
  have h1 := takeV_lt h hk
  have h2 : 256 ^ k ≤ 256 ^ 4 := Nat.pow_le_pow_right (by omega) hk
  rw [IntKind.wrap_i64]
  omega
theorem wU8 {r : Rd} (h : r.Ok) : IntKind.wrap .u8 ((r.takeV 1 : Nat) : Int) = ((r.takeV 1 : Nat) : Int) := by have := takeV_lt h (k := 1) (by omega); rw [wrap_u8_nat]; omega
theorem rtake {S : St} {o : Nat} {r : Rd} (h : RD o S r) (n : Nat) (h1 : 1 ≤ n) (h4 : n ≤ 4) :
    ACalls Try.prog 30 [.pointer (some ⟨o, 0, none⟩), .int .i64 (n : Int)] S (fun x S' => x = .int .u32 ((r.takeV n : Nat) : Int) ∧ ModO o S S' ∧ RD o S' (r.takeR n)) := by
  obtain ⟨ob, er, h⟩ := h
  exact (call30 h n h1 h4).mono fun x S' ⟨q1, q2, er', q3⟩ => ⟨q1, q2, ob, er', q3⟩
theorem rtake1 {S : St} {o : Nat} {r : Rd} (h : RD o S r) : ACalls Try.prog 30 [.pointer (some ⟨o, 0, none⟩), .int .i64 1] S (fun x S' => x = .int .u32 ((r.takeV 1 : Nat) : Int) ∧ ModO o S S' ∧ RD o S' (r.takeR 1)) := rtake h 1 (by omega) (by omega)
theorem rtake4 {S : St} {o : Nat} {r : Rd} (h : RD o S r) : ACalls Try.prog 30 [.pointer (some ⟨o, 0, none⟩), .int .i64 4] S (fun x S' => x = .int .u32 ((r.takeV 4 : Nat) : Int) ∧ ModO o S S' ∧ RD o S' (r.takeR 4)) := rtake h 4 (by omega) (by omega)
theorem rerr {S : St} {o : Nat} {r : Rd} (h : RD o S r) : ACalls Try.prog 31 [.pointer (some ⟨o, 0, none⟩)] S (fun x S' => S' = S ∧ (r.err = none ∧ x = .nilIface ∨ r.err ≠ none ∧ ∃ t v, x = .iface t v)) := by
  obtain ⟨ob, er, h⟩ := h
  refine (call31 h).mono fun x S' ⟨q1, q2⟩ => ⟨q2, ?_⟩
  have he := h.err
  rw [q1]
  cases hr : r.err with
  | none => rw [hr] at he; exact .inl ⟨rfl, he⟩
  | some a =>
    rw [hr] at he
    obtain ⟨oe, h1, h2⟩ := he
    exact .inr ⟨by simp, _, _, h1⟩
theorem rend {S : St} {o : Nat} {r : Rd} (h : RD o S r) : ACalls Try.prog 33 [.pointer (some ⟨o, 0, none⟩)] S (fun x S' => Keeps S S' ∧ ErrC S' r.endE x) := by
  obtain ⟨ob, er, h⟩ := h
  exact call33 h
theorem rat {S : St} {o : Nat} {r : Rd} (h : RD o S r) : ACalls Try.prog 35 [.pointer (some ⟨o, 0, none⟩)] S (fun x S' => S' = S ∧ x = .int .i64 (r.at_ : Int)) := by
  obtain ⟨ob, er, h⟩ := h
  exact call35 h
theorem enter60 (cargs : Array Value) (w : World) : (callFunc 60 cargs).run Try.prog w = .ok (.enter 60 cargs) w := by kernel_rfl
theorem call60 {S : St} {o b : Nat} {r : Rd} (hb : S[b]? = some (.row 71 true [.pointer (some ⟨o, 0, none⟩)])) (h : RD o S r) :
    ACalls Try.prog 60 [.pointer (some ⟨b, 0, none⟩)] S (fun x S' => x = .int .i64 ((r.takeV 1 : Nat) : Int) ∧ ModO o S S' ∧ RD o S' (r.takeR 1)) := by
  refine ACalls.of tok enter60 Try.func60 rfl (m := 5) rfl (by simp) (rs := [.tmp 1]) rfl fun hc ha => ?_
  clear ha
  have w1 := wI h.ok (k := 1) (by omega)
  refine AWp.seq_region tok fun K hK => ?_
  simp -implicitDefEqProofs only [vcT, wantedA, kp, kp2, kpS, kr, k1, k2, kL, kLP, kFn, kFn2, kSl, kSl2, kSl3, kC2, kP0, kP1, ev, evs, evParts, evO, Nat.reduceLT, Nat.reduceEqDiff, reduceIte, fr0, okConst, okc, appendA, cellsA, boxA, allocA, storeA, loadA, fieldA, indexA, fieldV, indexV, partA, extractA, nilA, binA, intBin, unA, lenA, isAggD, isConst, Nat.reduceAdd, Nat.reduceMul, Nat.reduceLeDiff, Nat.reduceSub, Nat.reduceBEq, splice, reduceCtorEq, Int.reduceEq, Int.reduceLT, Int.reduceLE, Int.reduceNeg, Int.reduceBEq, String.reduceEq, eqFlat, tf, aOpI]
  refine hK _ _ ?_
  clear hK
  refine AWp.seq_region tok fun K hK => ?_
  refine aList_cut 1 fun K1 hK1 => ?_
  simp -implicitDefEqProofs only [vcT, wantedA, kp, kp2, kpS, kr, k1, k2, kL, kLP, kFn, kFn2, kSl, kSl2, kSl3, kC2, kP0, kP1, ev, evs, evParts, evO, Nat.reduceLT, Nat.reduceEqDiff, reduceIte, fr0, okConst, okc, appendA, cellsA, boxA, allocA, storeA, loadA, fieldA, indexA, fieldV, indexV, partA, extractA, nilA, binA, intBin, unA, lenA, isAggD, isConst, Nat.reduceAdd, Nat.reduceMul, Nat.reduceLeDiff, Nat.reduceSub, Nat.reduceBEq, splice, reduceCtorEq, Int.reduceEq, Int.reduceLT, Int.reduceLE, Int.reduceNeg, Int.reduceBEq, String.reduceEq, eqFlat, tf, aOpI, hb, ty71]
  refine hK1 _ _ ?_
  clear hK1
  refine aList_cut 1 fun K1 hK1 => ?_
  simp -implicitDefEqProofs only [vcT, wantedA, kp, kp2, kpS, kr, k1, k2, kL, kLP, kFn, kFn2, kSl, kSl2, kSl3, kC2, kP0, kP1, ev, evs, evParts, evO, Nat.reduceLT, Nat.reduceEqDiff, reduceIte, fr0, okConst, okc, appendA, cellsA, boxA, allocA, storeA, loadA, fieldA, indexA, fieldV, indexV, partA, extractA, nilA, binA, intBin, unA, lenA, isAggD, isConst, Nat.reduceAdd, Nat.reduceMul, Nat.reduceLeDiff, Nat.reduceSub, Nat.reduceBEq, splice, reduceCtorEq, Int.reduceEq, Int.reduceLT, Int.reduceLE, Int.reduceNeg, Int.reduceBEq, String.reduceEq, eqFlat, tf, aOpI, Array.toList_empty, List.drop_succ_cons, List.drop_zero]
  refine (rtake1 h).mono ?_
  rintro x S' ⟨rfl, hm, hr⟩
  refine hK1 _ _ ?_
  clear hK1
  simp -implicitDefEqProofs only [vcT, wantedA, kp, kp2, kpS, kr, k1, k2, kL, kLP, kFn, kFn2, kSl, kSl2, kSl3, kC2, kP0, kP1, ev, evs, evParts, evO, Nat.reduceLT, Nat.reduceEqDiff, reduceIte, fr0, okConst, okc, appendA, cellsA, boxA, allocA, storeA, loadA, fieldA, indexA, fieldV, indexV, partA, extractA, nilA, binA, intBin, unA, lenA, isAggD, isConst, Nat.reduceAdd, Nat.reduceMul, Nat.reduceLeDiff, Nat.reduceSub, Nat.reduceBEq, splice, reduceCtorEq, Int.reduceEq, Int.reduceLT, Int.reduceLE, Int.reduceNeg, Int.reduceBEq, String.reduceEq, eqFlat, tf, aOpI, ty24, ty3, convA, w1, List.drop_succ_cons, List.drop_zero]
  refine hK _ _ ?_
  clear hK
  refine AWp.ret ?_
  simp -implicitDefEqProofs only [vcT, wantedA, kp, kp2, kpS, kr, k1, k2, kL, kLP, kFn, kFn2, kSl, kSl2, kSl3, kC2, kP0, kP1, ev, evs, evParts, evO, Nat.reduceLT, Nat.reduceEqDiff, reduceIte, fr0, okConst, okc, appendA, cellsA, boxA, allocA, storeA, loadA, fieldA, indexA, fieldV, indexV, partA, extractA, nilA, binA, intBin, unA, lenA, isAggD, isConst, Nat.reduceAdd, Nat.reduceMul, Nat.reduceLeDiff, Nat.reduceSub, Nat.reduceBEq, splice, reduceCtorEq, Int.reduceEq, Int.reduceLT, Int.reduceLE, Int.reduceNeg, Int.reduceBEq, String.reduceEq, eqFlat, tf, aOpI, ThenA, BlockA, EndA, ressA, resA, wrapA]
  exact ⟨hm, hr⟩
theorem ctake1 {S : St} {o b : Nat} {r : Rd} (hb : S[b]? = some (.row 71 true [.pointer (some ⟨o, 0, none⟩)])) (h : RD o S r) :
    ACalls Try.prog 60 [.pointer (some ⟨b, 0, none⟩)] S (fun x S' => x = .int .i64 ((r.takeV 1 : Nat) : Int) ∧ ModO o S S' ∧ RD o S' (r.takeR 1)) := call60 hb h
theorem enter61 (cargs : Array Value) (w : World) : (callFunc 61 cargs).run Try.prog w = .ok (.enter 61 cargs) w := by kernel_rfl
theorem call61 {S : St} {o b : Nat} {r : Rd} (hb : S[b]? = some (.row 71 true [.pointer (some ⟨o, 0, none⟩)])) (h : RD o S r) :
    ACalls Try.prog 61 [.pointer (some ⟨b, 0, none⟩)] S (fun x S' => x = .int .i64 ((r.takeV 4 : Nat) : Int) ∧ ModO o S S' ∧ RD o S' (r.takeR 4)) := by
  refine ACalls.of tok enter61 Try.func61 rfl (m := 5) rfl (by simp) (rs := [.tmp 1]) rfl fun hc ha => ?_
  clear ha
  have w1 := wI h.ok (k := 4) (by omega)
  refine AWp.seq_region tok fun K hK => ?_
  simp -implicitDefEqProofs only [vcT, wantedA, kp, kp2, kpS, kr, k1, k2, kL, kLP, kFn, kFn2, kSl, kSl2, kSl3, kC2, kP0, kP1, ev, evs, evParts, evO, Nat.reduceLT, Nat.reduceEqDiff, reduceIte, fr0, okConst, okc, appendA, cellsA, boxA, allocA, storeA, loadA, fieldA, indexA, fieldV, indexV, partA, extractA, nilA, binA, intBin, unA, lenA, isAggD, isConst, Nat.reduceAdd, Nat.reduceMul, Nat.reduceLeDiff, Nat.reduceSub, Nat.reduceBEq, splice, reduceCtorEq, Int.reduceEq, Int.reduceLT, Int.reduceLE, Int.reduceNeg, Int.reduceBEq, String.reduceEq, eqFlat, tf, aOpI]
  refine hK _ _ ?_
  clear hK
  refine AWp.seq_region tok fun K hK => ?_
  refine aList_cut 1 fun K1 hK1 => ?_
  simp -implicitDefEqProofs only [vcT, wantedA, kp, kp2, kpS, kr, k1, k2, kL, kLP, kFn, kFn2, kSl, kSl2, kSl3, kC2, kP0, kP1, ev, evs, evParts, evO, Nat.reduceLT, Nat.reduceEqDiff, reduceIte, fr0, okConst, okc, appendA, cellsA, boxA, allocA, storeA, loadA, fieldA, indexA, fieldV, indexV, partA, extractA, nilA, binA, intBin, unA, lenA, isAggD, isConst, Nat.reduceAdd, Nat.reduceMul, Nat.reduceLeDiff, Nat.reduceSub, Nat.reduceBEq, splice, reduceCtorEq, Int.reduceEq, Int.reduceLT, Int.reduceLE, Int.reduceNeg, Int.reduceBEq, String.reduceEq, eqFlat, tf, aOpI, hb, ty71]
  refine hK1 _ _ ?_
  clear hK1
  refine aList_cut 1 fun K1 hK1 => ?_
  simp -implicitDefEqProofs only [vcT, wantedA, kp, kp2, kpS, kr, k1, k2, kL, kLP, kFn, kFn2, kSl, kSl2, kSl3, kC2, kP0, kP1, ev, evs, evParts, evO, Nat.reduceLT, Nat.reduceEqDiff, reduceIte, fr0, okConst, okc, appendA, cellsA, boxA, allocA, storeA, loadA, fieldA, indexA, fieldV, indexV, partA, extractA, nilA, binA, intBin, unA, lenA, isAggD, isConst, Nat.reduceAdd, Nat.reduceMul, Nat.reduceLeDiff, Nat.reduceSub, Nat.reduceBEq, splice, reduceCtorEq, Int.reduceEq, Int.reduceLT, Int.reduceLE, Int.reduceNeg, Int.reduceBEq, String.reduceEq, eqFlat, tf, aOpI, Array.toList_empty, List.drop_succ_cons, List.drop_zero]
  refine (rtake4 h).mono ?_
  rintro x S' ⟨rfl, hm, hr⟩
  refine hK1 _ _ ?_
  clear hK1
  simp -implicitDefEqProofs only [vcT, wantedA, kp, kp2, kpS, kr, k1, k2, kL, kLP, kFn, kFn2, kSl, kSl2, kSl3, kC2, kP0, kP1, ev, evs, evParts, evO, Nat.reduceLT, Nat.reduceEqDiff, reduceIte, fr0, okConst, okc, appendA, cellsA, boxA, allocA, storeA, loadA, fieldA, indexA, fieldV, indexV, partA, extractA, nilA, binA, intBin, unA, lenA, isAggD, isConst, Nat.reduceAdd, Nat.reduceMul, Nat.reduceLeDiff, Nat.reduceSub, Nat.reduceBEq, splice, reduceCtorEq, Int.reduceEq, Int.reduceLT, Int.reduceLE, Int.reduceNeg, Int.reduceBEq, String.reduceEq, eqFlat, tf, aOpI, ty24, ty3, convA, w1, List.drop_succ_cons, List.drop_zero]
  refine hK _ _ ?_
  clear hK
  refine AWp.ret ?_
  simp -implicitDefEqProofs only [vcT, wantedA, kp, kp2, kpS, kr, k1, k2, kL, kLP, kFn, kFn2, kSl, kSl2, kSl3, kC2, kP0, kP1, ev, evs, evParts, evO, Nat.reduceLT, Nat.reduceEqDiff, reduceIte, fr0, okConst, okc, appendA, cellsA, boxA, allocA, storeA, loadA, fieldA, indexA, fieldV, indexV, partA, extractA, nilA, binA, intBin, unA, lenA, isAggD, isConst, Nat.reduceAdd, Nat.reduceMul, Nat.reduceLeDiff, Nat.reduceSub, Nat.reduceBEq, splice, reduceCtorEq, Int.reduceEq, Int.reduceLT, Int.reduceLE, Int.reduceNeg, Int.reduceBEq, String.reduceEq, eqFlat, tf, aOpI, ThenA, BlockA, EndA, ressA, resA, wrapA]
  exact ⟨hm, hr⟩
theorem ctake4 {S : St} {o b : Nat} {r : Rd} (hb : S[b]? = some (.row 71 true [.pointer (some ⟨o, 0, none⟩)])) (h : RD o S r) :
    ACalls Try.prog 61 [.pointer (some ⟨b, 0, none⟩)] S (fun x S' => x = .int .i64 ((r.takeV 4 : Nat) : Int) ∧ ModO o S S' ∧ RD o S' (r.takeR 4)) := call61 hb h

theorem bd56_0 : buildA TT 56 [] = some (cfV zT nilS nilS nilS) := by kernel_rfl
theorem bd56_8 (a b c d e f g h : Int) : buildA TT 56 [(0, .int .i64 a), (1, .int .i64 b), (2, .int .i64 c), (3, .int .i64 d), (4, .int .i64 e), (5, .int .i64 f), (6, .int .i64 g), (7, .int .i64 h)] = some (.agg #[.int .i64 a, .int .i64 b, .int .i64 c, .int .i64 d, .int .i64 e, .int .i64 f, .int .i64 g, .int .i64 h, .slice none 0 0, .slice none 0 0, .slice none 0 0]) := by kernel_rfl
theorem bd108_5 (a b c d e : Int) : buildA TT 108 [(0, .int .i64 a), (1, .int .i64 b), (2, .int .i64 c), (3, .int .i64 d), (4, .int .i64 e)] = some (.agg #[.int .i64 a, .int .i64 b, .int .i64 c, .int .i64 d, .int .i64 e, .int .u8 0, .int .u8 0, .int .u8 0, .int .u8 0]) := by kernel_rfl
theorem bd111_2 (a b : Int) : buildA TT 111 [(0, .int .i64 a), (1, .int .u8 b)] = some (.agg #[.int .i64 a, .int .u8 b, .bool false, .int .i64 0, .int .i64 0, .int .i64 0]) := by kernel_rfl
theorem bd113_2 (a b : Int) : buildA TT 113 [(0, .int .i64 a), (1, .int .i64 b)] = some (.agg #[.int .i64 a, .int .i64 b]) := by kernel_rfl
theorem bs52_1 (p : Pt) (S : St) : buildSliceA TT S 52 1 [(0, p.val)] = some (.slice (some ⟨S.length, 0, none⟩) 1 9, S ++ [.row 108 true p.cells]) := by kernel_rfl
theorem bs53_1 (p : Qt) (S : St) : buildSliceA TT S 53 1 [(0, p.val)] = some (.slice (some ⟨S.length, 0, none⟩) 1 6, S ++ [.row 111 true p.cells]) := by kernel_rfl
theorem bs54_1 (a b : Int) (S : St) : buildSliceA TT S 54 1 [(0, .agg #[.int .i64 a, .int .i64 b])] = some (.slice (some ⟨S.length, 0, none⟩) 1 2, S ++ [.row 113 true [.int .i64 a, .int .i64 b]]) := by kernel_rfl
theorem cfC_len (c : Cf) (vp vq vr : Value) : (cfC c vp vq vr).length = 11 := rfl
theorem GrX.nil (ty : TypeId) (sz : Nat) (S : St) (n : Nat) : GrX ty sz S n nilS [] := ⟨fun x hx => by simp at hx, .inl ⟨rfl, rfl⟩⟩

/-- What reading comes to. -/
def ReadQ (S : St) (o : Nat) (p : Cf × List (Int × Int) × Rd) (x : Value) (S' : St) : Prop :=
  ModO o S S' ∧ RD o S' p.2.2 ∧ ∃ vp vq vr v, x = .tuple #[cfV p.1 vp vq vr, v] ∧ CfA S' p.1 vp vq vr ∧ ErrC S' p.2.1 v
theorem zT_at (S : St) : CfA S zT nilS nilS nilS := ⟨⟨fun x hx => by simp [zT] at hx, .inl ⟨rfl, rfl⟩⟩, ⟨fun x hx => by simp [zT] at hx, .inl ⟨rfl, rfl⟩⟩, ⟨fun x hx => by simp [zT] at hx, .inl ⟨rfl, rfl⟩⟩, by decide, by decide, by decide⟩


theorem ModO.setHi {o x : Nat} {S S' : St} (h : ModO o S S') (hx : S.length ≤ x) (y : AObj) : ModO o S (S'.set x y) :=
  ⟨by have := h.1; simpa using this, fun j hj hne => by rw [List.getElem?_set_ne (by omega)]; exact h.2 j hj hne⟩
theorem PreT.fin {S S' : St} {o : Nat} {r : Rd} (h : PreT S S' o r) (y : AObj) : ModO o S (S'.set (S.length + 1) y) ∧ RD o (S'.set (S.length + 1) y) r := by
  refine ⟨h.k.setHi (by omega) y, h.rd.same fun j ty rw cs hj ht => ?_⟩
  rw [List.getElem?_set_ne (fun e => ?_)]
  · exact hj
  · subst e
    rw [h.res] at hj
    cases hj
    rcases ht with h | h | h <;> cases h
theorem TdI.out {S S' : St} {o o6 : Nat} {r : Rd} {c : Cf} {vp vq vr : Value} (h : TdI S S' o r o6 c vp vq vr) (h1 : c.ps.length ≤ 1000) (h2 : c.qs.length ≤ 1000) (h3 : c.rs.length ≤ 1000) (y : AObj) :
    ModO o S (S'.set (S.length + 1) y) ∧ RD o (S'.set (S.length + 1) y) r ∧ CfA (S'.set (S.length + 1) y) c vp vq vr := by
  have key : ∀ {ty : TypeId} {cs : List Value} {a : Nat}, ty ≠ 56 → S'[a]? = some (.row ty true cs) → (S'.set (S.length + 1) y)[a]? = some (.row ty true cs) := by
    intro ty cs a hty q
    rw [List.getElem?_set_ne (fun e => ?_)]
    · exact q
    · subst e
      rw [h.p.res] at q
      cases q
      exact hty rfl
  exact ⟨(h.p.fin y).1, (h.p.fin y).2, (h.ps.keep fun a _ _ q => key (by decide) q).sl, (h.qs.keep fun a _ _ q => key (by decide) q).sl, (h.rs.keep fun a _ _ q => key (by decide) q).sl, by omega, by omega, by omega⟩

def rk (r : Rd) : Nat → Rd
  | 0 => r
  | k + 1 => (rk r k).takeR 1
def ck (l : List Value) (r : Rd) : Nat → List Value
  | 0 => l
  | k + 1 => (ck l r k).set (5 + k) (.int .u8 (((rk r k).takeV 1 : Nat) : Int))
theorem ck_len (l : List Value) (r : Rd) : ∀ k, (ck l r k).length = l.length
  | 0 => rfl
  | k + 1 => by simp [ck, ck_len l r k]

theorem enter50 (cargs : Array Value) (w : World) : (callFunc 50 cargs).run Try.prog w = .ok (.enter 50 cargs) w := by kernel_rfl
set_option maxHeartbeats 8000000 in
theorem call50 {S : St} {o : Nat} {r : Rd} (h : RD o S r) : ACalls Try.prog 50 [.pointer (some ⟨o, 0, none⟩)] S (ReadQ S o (rdT r)) := by
  generalize hP : rdT r = P
  refine ACalls.of tok enter50 Try.func50 rfl (m := 156) rfl (by simp) (rs := [.cell 2 56, .tmp 3]) rfl fun hc ha => ?_
  clear ha
  have holt : o < S.length := by
    obtain ⟨cs, hcs⟩ := h.row
    exact (List.getElem?_eq_some_iff.1 hcs).1
  refine AWp.seq_region tok fun K hK => ?_
  simp -implicitDefEqProofs only [vcT, wantedA, kp, kp2, kpS, kr, k1, k2, kL, kLP, kFn, kFn2, kSl, kSl2, kSl3, kC2, kP0, kP1, ev, evs, evParts, evO, Nat.reduceLT, Nat.reduceEqDiff, reduceIte, fr0, okConst, okc, appendA, cellsA, boxA, allocA, storeA, loadA, fieldA, indexA, fieldV, indexV, partA, extractA, nilA, binA, intBin, unA, lenA, isAggD, isConst, Nat.reduceAdd, Nat.reduceMul, Nat.reduceLeDiff, Nat.reduceSub, Nat.reduceBEq, splice, reduceCtorEq, Int.reduceEq, Int.reduceLT, Int.reduceLE, Int.reduceNeg, Int.reduceBEq, String.reduceEq, eqFlat, tf, aOpI]
  refine hK _ _ ?_
  clear hK
  have hi : PreT S (S ++ [AObj.row 71 true [.pointer (some ⟨o, 0, none⟩)], .row 56 true (cfC zT nilS nilS nilS)]) o r :=
    ⟨ModO.of_keeps (Keeps.append _ _), by simp, by simp, h.same (sameR_append _ _), holt⟩
  show AWp _ _ _ _ _ _ (S ++ [AObj.row 71 true [.pointer (some ⟨o, 0, none⟩)], .row 56 true (cfC zT nilS nilS nilS)])
  generalize (S ++ [AObj.row 71 true [.pointer (some ⟨o, 0, none⟩)], .row 56 true (cfC zT nilS nilS nilS)]) = S1 at hi ⊢
  clear h
  refine AWp.seq_region tok fun K hK => ?_
  simp -implicitDefEqProofs only [vcT, wantedA, kp, kp2, kpS, kr, k1, k2, kL, kLP, kFn, kFn2, kSl, kSl2, kSl3, kC2, kP0, kP1, ev, evs, evParts, evO, Nat.reduceLT, Nat.reduceEqDiff, reduceIte, fr0, okConst, okc, appendA, cellsA, boxA, allocA, storeA, loadA, fieldA, indexA, fieldV, indexV, partA, extractA, nilA, binA, intBin, unA, lenA, isAggD, isConst, Nat.reduceAdd, Nat.reduceMul, Nat.reduceLeDiff, Nat.reduceSub, Nat.reduceBEq, splice, reduceCtorEq, Int.reduceEq, Int.reduceLT, Int.reduceLE, Int.reduceNeg, Int.reduceBEq, String.reduceEq, eqFlat, tf, aOpI]
  refine hK _ _ ?_
  clear hK
  refine AWp.seq_region tok fun K hK => ?_
  simp -implicitDefEqProofs only [vcT, wantedA, kp, kp2, kpS, kr, k1, k2, kL, kLP, kFn, kFn2, kSl, kSl2, kSl3, kC2, kP0, kP1, ev, evs, evParts, evO, Nat.reduceLT, Nat.reduceEqDiff, reduceIte, fr0, okConst, okc, appendA, cellsA, boxA, allocA, storeA, loadA, fieldA, indexA, fieldV, indexV, partA, extractA, nilA, binA, intBin, unA, lenA, isAggD, isConst, Nat.reduceAdd, Nat.reduceMul, Nat.reduceLeDiff, Nat.reduceSub, Nat.reduceBEq, splice, reduceCtorEq, Int.reduceEq, Int.reduceLT, Int.reduceLE, Int.reduceNeg, Int.reduceBEq, String.reduceEq, eqFlat, tf, aOpI]
  refine hK _ _ ?_
  clear hK
  refine AWp.weak (Wk.fr (l := [(1, .pointer (some ⟨S.length, 0, none⟩)), (2, .pointer (some ⟨S.length + 1, 0, none⟩)), (3, .nilIface), (4, .func (.func 60) #[] #[.pointer (some ⟨S.length, 0, none⟩)]), (5, .func (.func 61) #[] #[.pointer (some ⟨S.length, 0, none⟩)])]) (by simp only [List.forall_mem_cons, vcT, wantedA, kp, kp2, kpS, kr, k1, k2, kL, kLP, kFn, kFn2, kSl, kSl2, kSl3, kC2, kP0, kP1, ev, evs, evParts, evO, Nat.reduceLT, Nat.reduceEqDiff, reduceIte, fr0, okConst, okc, appendA, cellsA, boxA, allocA, storeA, loadA, fieldA, indexA, fieldV, indexV, partA, extractA, nilA, binA, intBin, unA, lenA, isAggD, isConst, Nat.reduceAdd, Nat.reduceMul, Nat.reduceLeDiff, Nat.reduceSub, Nat.reduceBEq, splice, reduceCtorEq, Int.reduceEq, Int.reduceLT, Int.reduceLE, Int.reduceNeg, Int.reduceBEq, String.reduceEq, eqFlat, tf, aOpI, frL_cons]; simp)) ?_
  refine AWp.seqK fun K0 hK0 => ?_
  refine AWp.seq_region tok fun K hK => ?_
  refine aList_cut 1 fun K1 hK1 => ?_
  simp -implicitDefEqProofs only [vcT, wantedA, kp, kp2, kpS, kr, k1, k2, kL, kLP, kFn, kFn2, kSl, kSl2, kSl3, kC2, kP0, kP1, ev, evs, evParts, evO, Nat.reduceLT, Nat.reduceEqDiff, reduceIte, fr0, okConst, okc, appendA, cellsA, boxA, allocA, storeA, loadA, fieldA, indexA, fieldV, indexV, partA, extractA, nilA, binA, intBin, unA, lenA, isAggD, isConst, Nat.reduceAdd, Nat.reduceMul, Nat.reduceLeDiff, Nat.reduceSub, Nat.reduceBEq, splice, reduceCtorEq, Int.reduceEq, Int.reduceLT, Int.reduceLE, Int.reduceNeg, Int.reduceBEq, String.reduceEq, eqFlat, tf, aOpI, frL_cons, hi.box, ty71]
  refine hK1 _ _ ?_
  clear hK1
  refine aList_cut 1 fun K1 hK1 => ?_
  simp -implicitDefEqProofs only [vcT, wantedA, kp, kp2, kpS, kr, k1, k2, kL, kLP, kFn, kFn2, kSl, kSl2, kSl3, kC2, kP0, kP1, ev, evs, evParts, evO, Nat.reduceLT, Nat.reduceEqDiff, reduceIte, fr0, okConst, okc, appendA, cellsA, boxA, allocA, storeA, loadA, fieldA, indexA, fieldV, indexV, partA, extractA, nilA, binA, intBin, unA, lenA, isAggD, isConst, Nat.reduceAdd, Nat.reduceMul, Nat.reduceLeDiff, Nat.reduceSub, Nat.reduceBEq, splice, reduceCtorEq, Int.reduceEq, Int.reduceLT, Int.reduceLE, Int.reduceNeg, Int.reduceBEq, String.reduceEq, eqFlat, tf, aOpI, Array.toList_empty, List.drop_succ_cons, List.drop_zero, frL_cons]
  refine (rtake4 hi.rd).mono ?_
  rintro z S2 ⟨rfl, hm, hr⟩
  replace hi := hi.read hm hr
  clear hm hr
  refine hK1 _ _ ?_
  clear hK1
  have hgo : (¬ (r.takeV 4 ≠ 1163084593 ∧ (r.takeR 4).err = none)) → ∀ fr, fr 1 = .pointer (some ⟨S.length, 0, none⟩) → fr 2 = .pointer (some ⟨S.length + 1, 0, none⟩) → fr 3 = .nilIface → fr 4 = .func (.func 60) #[] #[.pointer (some ⟨S.length, 0, none⟩)] → fr 5 = .func (.func 61) #[] #[.pointer (some ⟨S.length, 0, none⟩)] → K0 fr S2 := by
    intro hcond fr g1 g2 g3 g4 g5
    refine hK0 _ _ ?_
    clear hK0 hK
    have hPd : P = rdBody (rdHd (r.takeR 4)) ((rdHdR (r.takeR 4)).takeV 1) (((rdHdR (r.takeR 4)).takeR 1).takeV 1) ((((rdHdR (r.takeR 4)).takeR 1).takeR 1).takeV 1) ((((rdHdR (r.takeR 4)).takeR 1).takeR 1).takeR 1) := by
      rw [← hP]
      unfold rdT
      rw [if_neg hcond]
    clear hcond hP
    generalize r.takeR 4 = r0 at *
    refine AWp.weak (Wk.fr (l := [(1, .pointer (some ⟨S.length, 0, none⟩)), (2, .pointer (some ⟨S.length + 1, 0, none⟩)), (3, .nilIface), (4, .func (.func 60) #[] #[.pointer (some ⟨S.length, 0, none⟩)]), (5, .func (.func 61) #[] #[.pointer (some ⟨S.length, 0, none⟩)])]) (by simp only [List.forall_mem_cons, g1, g2, g3, g4, g5]; simp)) ?_
    clear g1 g2 g3 g4 g5 fr
    refine AWp.seq_region tok fun K hK => ?_
    refine aList_cut 1 fun K1 hK1 => ?_
    simp -implicitDefEqProofs only [vcT, wantedA, kp, kp2, kpS, kr, k1, k2, kL, kLP, kFn, kFn2, kSl, kSl2, kSl3, kC2, kP0, kP1, ev, evs, evParts, evO, Nat.reduceLT, Nat.reduceEqDiff, reduceIte, fr0, okConst, okc, appendA, cellsA, boxA, allocA, storeA, loadA, fieldA, indexA, fieldV, indexV, partA, extractA, nilA, binA, intBin, unA, lenA, isAggD, isConst, Nat.reduceAdd, Nat.reduceMul, Nat.reduceLeDiff, Nat.reduceSub, Nat.reduceBEq, splice, reduceCtorEq, Int.reduceEq, Int.reduceLT, Int.reduceLE, Int.reduceNeg, Int.reduceBEq, String.reduceEq, eqFlat, tf, aOpI, frL_cons, List.drop_succ_cons, List.drop_zero]
    refine hK1 _ _ ?_
    clear hK1
    refine aList_cut 1 fun K1 hK1 => ?_
    simp -implicitDefEqProofs only [vcT, wantedA, kp, kp2, kpS, kr, k1, k2, kL, kLP, kFn, kFn2, kSl, kSl2, kSl3, kC2, kP0, kP1, ev, evs, evParts, evO, Nat.reduceLT, Nat.reduceEqDiff, reduceIte, fr0, okConst, okc, appendA, cellsA, boxA, allocA, storeA, loadA, fieldA, indexA, fieldV, indexV, partA, extractA, nilA, binA, intBin, unA, lenA, isAggD, isConst, Nat.reduceAdd, Nat.reduceMul, Nat.reduceLeDiff, Nat.reduceSub, Nat.reduceBEq, splice, reduceCtorEq, Int.reduceEq, Int.reduceLT, Int.reduceLE, Int.reduceNeg, Int.reduceBEq, String.reduceEq, eqFlat, tf, aOpI, Array.toList_empty, List.drop_succ_cons, List.drop_zero, frL_cons]
    refine (ctake1 hi.box hi.rd).mono ?_
    rintro z S4 ⟨rfl, hm, hr⟩
    replace hi := hi.read hm hr
    clear hm hr
    refine hK1 _ _ ?_
    clear hK1
    refine aList_cut 1 fun K1 hK1 => ?_
    simp -implicitDefEqProofs only [vcT, wantedA, kp, kp2, kpS, kr, k1, k2, kL, kLP, kFn, kFn2, kSl, kSl2, kSl3, kC2, kP0, kP1, ev, evs, evParts, evO, Nat.reduceLT, Nat.reduceEqDiff, reduceIte, fr0, okConst, okc, appendA, cellsA, boxA, allocA, storeA, loadA, fieldA, indexA, fieldV, indexV, partA, extractA, nilA, binA, intBin, unA, lenA, isAggD, isConst, Nat.reduceAdd, Nat.reduceMul, Nat.reduceLeDiff, Nat.reduceSub, Nat.reduceBEq, splice, reduceCtorEq, Int.reduceEq, Int.reduceLT, Int.reduceLE, Int.reduceNeg, Int.reduceBEq, String.reduceEq, eqFlat, tf, aOpI, frL_cons, List.drop_succ_cons, List.drop_zero]
    refine hK1 _ _ ?_
    clear hK1
    refine aList_cut 1 fun K1 hK1 => ?_
    simp -implicitDefEqProofs only [vcT, wantedA, kp, kp2, kpS, kr, k1, k2, kL, kLP, kFn, kFn2, kSl, kSl2, kSl3, kC2, kP0, kP1, ev, evs, evParts, evO, Nat.reduceLT, Nat.reduceEqDiff, reduceIte, fr0, okConst, okc, appendA, cellsA, boxA, allocA, storeA, loadA, fieldA, indexA, fieldV, indexV, partA, extractA, nilA, binA, intBin, unA, lenA, isAggD, isConst, Nat.reduceAdd, Nat.reduceMul, Nat.reduceLeDiff, Nat.reduceSub, Nat.reduceBEq, splice, reduceCtorEq, Int.reduceEq, Int.reduceLT, Int.reduceLE, Int.reduceNeg, Int.reduceBEq, String.reduceEq, eqFlat, tf, aOpI, Array.toList_empty, List.drop_succ_cons, List.drop_zero, frL_cons]
    refine (ctake1 hi.box hi.rd).mono ?_
    rintro z S4 ⟨rfl, hm, hr⟩
    replace hi := hi.read hm hr
    clear hm hr
    refine hK1 _ _ ?_
    clear hK1
    refine aList_cut 1 fun K1 hK1 => ?_
    simp -implicitDefEqProofs only [vcT, wantedA, kp, kp2, kpS, kr, k1, k2, kL, kLP, kFn, kFn2, kSl, kSl2, kSl3, kC2, kP0, kP1, ev, evs, evParts, evO, Nat.reduceLT, Nat.reduceEqDiff, reduceIte, fr0, okConst, okc, appendA, cellsA, boxA, allocA, storeA, loadA, fieldA, indexA, fieldV, indexV, partA, extractA, nilA, binA, intBin, unA, lenA, isAggD, isConst, Nat.reduceAdd, Nat.reduceMul, Nat.reduceLeDiff, Nat.reduceSub, Nat.reduceBEq, splice, reduceCtorEq, Int.reduceEq, Int.reduceLT, Int.reduceLE, Int.reduceNeg, Int.reduceBEq, String.reduceEq, eqFlat, tf, aOpI, frL_cons, List.drop_succ_cons, List.drop_zero]
    refine hK1 _ _ ?_
    clear hK1
    refine aList_cut 1 fun K1 hK1 => ?_
    simp -implicitDefEqProofs only [vcT, wantedA, kp, kp2, kpS, kr, k1, k2, kL, kLP, kFn, kFn2, kSl, kSl2, kSl3, kC2, kP0, kP1, ev, evs, evParts, evO, Nat.reduceLT, Nat.reduceEqDiff, reduceIte, fr0, okConst, okc, appendA, cellsA, boxA, allocA, storeA, loadA, fieldA, indexA, fieldV, indexV, partA, extractA, nilA, binA, intBin, unA, lenA, isAggD, isConst, Nat.reduceAdd, Nat.reduceMul, Nat.reduceLeDiff, Nat.reduceSub, Nat.reduceBEq, splice, reduceCtorEq, Int.reduceEq, Int.reduceLT, Int.reduceLE, Int.reduceNeg, Int.reduceBEq, String.reduceEq, eqFlat, tf, aOpI, Array.toList_empty, List.drop_succ_cons, List.drop_zero, frL_cons]
    refine (ctake4 hi.box hi.rd).mono ?_
    rintro z S4 ⟨rfl, hm, hr⟩
    replace hi := hi.read hm hr
    clear hm hr
    refine hK1 _ _ ?_
    clear hK1
    refine aList_cut 1 fun K1 hK1 => ?_
    simp -implicitDefEqProofs only [vcT, wantedA, kp, kp2, kpS, kr, k1, k2, kL, kLP, kFn, kFn2, kSl, kSl2, kSl3, kC2, kP0, kP1, ev, evs, evParts, evO, Nat.reduceLT, Nat.reduceEqDiff, reduceIte, fr0, okConst, okc, appendA, cellsA, boxA, allocA, storeA, loadA, fieldA, indexA, fieldV, indexV, partA, extractA, nilA, binA, intBin, unA, lenA, isAggD, isConst, Nat.reduceAdd, Nat.reduceMul, Nat.reduceLeDiff, Nat.reduceSub, Nat.reduceBEq, splice, reduceCtorEq, Int.reduceEq, Int.reduceLT, Int.reduceLE, Int.reduceNeg, Int.reduceBEq, String.reduceEq, eqFlat, tf, aOpI, frL_cons, List.drop_succ_cons, List.drop_zero]
    refine hK1 _ _ ?_
    clear hK1
    refine aList_cut 1 fun K1 hK1 => ?_
    simp -implicitDefEqProofs only [vcT, wantedA, kp, kp2, kpS, kr, k1, k2, kL, kLP, kFn, kFn2, kSl, kSl2, kSl3, kC2, kP0, kP1, ev, evs, evParts, evO, Nat.reduceLT, Nat.reduceEqDiff, reduceIte, fr0, okConst, okc, appendA, cellsA, boxA, allocA, storeA, loadA, fieldA, indexA, fieldV, indexV, partA, extractA, nilA, binA, intBin, unA, lenA, isAggD, isConst, Nat.reduceAdd, Nat.reduceMul, Nat.reduceLeDiff, Nat.reduceSub, Nat.reduceBEq, splice, reduceCtorEq, Int.reduceEq, Int.reduceLT, Int.reduceLE, Int.reduceNeg, Int.reduceBEq, String.reduceEq, eqFlat, tf, aOpI, Array.toList_empty, List.drop_succ_cons, List.drop_zero, frL_cons]
    refine (ctake4 hi.box hi.rd).mono ?_
    rintro z S4 ⟨rfl, hm, hr⟩
    replace hi := hi.read hm hr
    clear hm hr
    refine hK1 _ _ ?_
    clear hK1
    refine aList_cut 1 fun K1 hK1 => ?_
    simp -implicitDefEqProofs only [vcT, wantedA, kp, kp2, kpS, kr, k1, k2, kL, kLP, kFn, kFn2, kSl, kSl2, kSl3, kC2, kP0, kP1, ev, evs, evParts, evO, Nat.reduceLT, Nat.reduceEqDiff, reduceIte, fr0, okConst, okc, appendA, cellsA, boxA, allocA, storeA, loadA, fieldA, indexA, fieldV, indexV, partA, extractA, nilA, binA, intBin, unA, lenA, isAggD, isConst, Nat.reduceAdd, Nat.reduceMul, Nat.reduceLeDiff, Nat.reduceSub, Nat.reduceBEq, splice, reduceCtorEq, Int.reduceEq, Int.reduceLT, Int.reduceLE, Int.reduceNeg, Int.reduceBEq, String.reduceEq, eqFlat, tf, aOpI, frL_cons, List.drop_succ_cons, List.drop_zero]
    refine hK1 _ _ ?_
    clear hK1
    refine aList_cut 1 fun K1 hK1 => ?_
    simp -implicitDefEqProofs only [vcT, wantedA, kp, kp2, kpS, kr, k1, k2, kL, kLP, kFn, kFn2, kSl, kSl2, kSl3, kC2, kP0, kP1, ev, evs, evParts, evO, Nat.reduceLT, Nat.reduceEqDiff, reduceIte, fr0, okConst, okc, appendA, cellsA, boxA, allocA, storeA, loadA, fieldA, indexA, fieldV, indexV, partA, extractA, nilA, binA, intBin, unA, lenA, isAggD, isConst, Nat.reduceAdd, Nat.reduceMul, Nat.reduceLeDiff, Nat.reduceSub, Nat.reduceBEq, splice, reduceCtorEq, Int.reduceEq, Int.reduceLT, Int.reduceLE, Int.reduceNeg, Int.reduceBEq, String.reduceEq, eqFlat, tf, aOpI, Array.toList_empty, List.drop_succ_cons, List.drop_zero, frL_cons]
    refine (ctake4 hi.box hi.rd).mono ?_
    rintro z S4 ⟨rfl, hm, hr⟩
    replace hi := hi.read hm hr
    clear hm hr
    refine hK1 _ _ ?_
    clear hK1
    refine aList_cut 1 fun K1 hK1 => ?_
    simp -implicitDefEqProofs only [vcT, wantedA, kp, kp2, kpS, kr, k1, k2, kL, kLP, kFn, kFn2, kSl, kSl2, kSl3, kC2, kP0, kP1, ev, evs, evParts, evO, Nat.reduceLT, Nat.reduceEqDiff, reduceIte, fr0, okConst, okc, appendA, cellsA, boxA, allocA, storeA, loadA, fieldA, indexA, fieldV, indexV, partA, extractA, nilA, binA, intBin, unA, lenA, isAggD, isConst, Nat.reduceAdd, Nat.reduceMul, Nat.reduceLeDiff, Nat.reduceSub, Nat.reduceBEq, splice, reduceCtorEq, Int.reduceEq, Int.reduceLT, Int.reduceLE, Int.reduceNeg, Int.reduceBEq, String.reduceEq, eqFlat, tf, aOpI, frL_cons, List.drop_succ_cons, List.drop_zero]
    refine hK1 _ _ ?_
    clear hK1
    refine aList_cut 1 fun K1 hK1 => ?_
    simp -implicitDefEqProofs only [vcT, wantedA, kp, kp2, kpS, kr, k1, k2, kL, kLP, kFn, kFn2, kSl, kSl2, kSl3, kC2, kP0, kP1, ev, evs, evParts, evO, Nat.reduceLT, Nat.reduceEqDiff, reduceIte, fr0, okConst, okc, appendA, cellsA, boxA, allocA, storeA, loadA, fieldA, indexA, fieldV, indexV, partA, extractA, nilA, binA, intBin, unA, lenA, isAggD, isConst, Nat.reduceAdd, Nat.reduceMul, Nat.reduceLeDiff, Nat.reduceSub, Nat.reduceBEq, splice, reduceCtorEq, Int.reduceEq, Int.reduceLT, Int.reduceLE, Int.reduceNeg, Int.reduceBEq, String.reduceEq, eqFlat, tf, aOpI, Array.toList_empty, List.drop_succ_cons, List.drop_zero, frL_cons]
    refine (ctake4 hi.box hi.rd).mono ?_
    rintro z S4 ⟨rfl, hm, hr⟩
    replace hi := hi.read hm hr
    clear hm hr
    refine hK1 _ _ ?_
    clear hK1
    refine aList_cut 1 fun K1 hK1 => ?_
    simp -implicitDefEqProofs only [vcT, wantedA, kp, kp2, kpS, kr, k1, k2, kL, kLP, kFn, kFn2, kSl, kSl2, kSl3, kC2, kP0, kP1, ev, evs, evParts, evO, Nat.reduceLT, Nat.reduceEqDiff, reduceIte, fr0, okConst, okc, appendA, cellsA, boxA, allocA, storeA, loadA, fieldA, indexA, fieldV, indexV, partA, extractA, nilA, binA, intBin, unA, lenA, isAggD, isConst, Nat.reduceAdd, Nat.reduceMul, Nat.reduceLeDiff, Nat.reduceSub, Nat.reduceBEq, splice, reduceCtorEq, Int.reduceEq, Int.reduceLT, Int.reduceLE, Int.reduceNeg, Int.reduceBEq, String.reduceEq, eqFlat, tf, aOpI, frL_cons, List.drop_succ_cons, List.drop_zero]
    refine hK1 _ _ ?_
    clear hK1
    refine aList_cut 1 fun K1 hK1 => ?_
    simp -implicitDefEqProofs only [vcT, wantedA, kp, kp2, kpS, kr, k1, k2, kL, kLP, kFn, kFn2, kSl, kSl2, kSl3, kC2, kP0, kP1, ev, evs, evParts, evO, Nat.reduceLT, Nat.reduceEqDiff, reduceIte, fr0, okConst, okc, appendA, cellsA, boxA, allocA, storeA, loadA, fieldA, indexA, fieldV, indexV, partA, extractA, nilA, binA, intBin, unA, lenA, isAggD, isConst, Nat.reduceAdd, Nat.reduceMul, Nat.reduceLeDiff, Nat.reduceSub, Nat.reduceBEq, splice, reduceCtorEq, Int.reduceEq, Int.reduceLT, Int.reduceLE, Int.reduceNeg, Int.reduceBEq, String.reduceEq, eqFlat, tf, aOpI, Array.toList_empty, List.drop_succ_cons, List.drop_zero, frL_cons]
    refine (ctake4 hi.box hi.rd).mono ?_
    rintro z S4 ⟨rfl, hm, hr⟩
    replace hi := hi.read hm hr
    clear hm hr
    refine hK1 _ _ ?_
    clear hK1
    refine aList_cut 1 fun K1 hK1 => ?_
    simp -implicitDefEqProofs only [vcT, wantedA, kp, kp2, kpS, kr, k1, k2, kL, kLP, kFn, kFn2, kSl, kSl2, kSl3, kC2, kP0, kP1, ev, evs, evParts, evO, Nat.reduceLT, Nat.reduceEqDiff, reduceIte, fr0, okConst, okc, appendA, cellsA, boxA, allocA, storeA, loadA, fieldA, indexA, fieldV, indexV, partA, extractA, nilA, binA, intBin, unA, lenA, isAggD, isConst, Nat.reduceAdd, Nat.reduceMul, Nat.reduceLeDiff, Nat.reduceSub, Nat.reduceBEq, splice, reduceCtorEq, Int.reduceEq, Int.reduceLT, Int.reduceLE, Int.reduceNeg, Int.reduceBEq, String.reduceEq, eqFlat, tf, aOpI, frL_cons, List.drop_succ_cons, List.drop_zero]
    refine hK1 _ _ ?_
    clear hK1
    refine aList_cut 1 fun K1 hK1 => ?_
    simp -implicitDefEqProofs only [vcT, wantedA, kp, kp2, kpS, kr, k1, k2, kL, kLP, kFn, kFn2, kSl, kSl2, kSl3, kC2, kP0, kP1, ev, evs, evParts, evO, Nat.reduceLT, Nat.reduceEqDiff, reduceIte, fr0, okConst, okc, appendA, cellsA, boxA, allocA, storeA, loadA, fieldA, indexA, fieldV, indexV, partA, extractA, nilA, binA, intBin, unA, lenA, isAggD, isConst, Nat.reduceAdd, Nat.reduceMul, Nat.reduceLeDiff, Nat.reduceSub, Nat.reduceBEq, splice, reduceCtorEq, Int.reduceEq, Int.reduceLT, Int.reduceLE, Int.reduceNeg, Int.reduceBEq, String.reduceEq, eqFlat, tf, aOpI, Array.toList_empty, List.drop_succ_cons, List.drop_zero, frL_cons]
    refine (ctake4 hi.box hi.rd).mono ?_
    rintro z S4 ⟨rfl, hm, hr⟩
    replace hi := hi.read hm hr
    clear hm hr
    refine hK1 _ _ ?_
    clear hK1
    simp -implicitDefEqProofs only [vcT, wantedA, kp, kp2, kpS, kr, k1, k2, kL, kLP, kFn, kFn2, kSl, kSl2, kSl3, kC2, kP0, kP1, ev, evs, evParts, evO, Nat.reduceLT, Nat.reduceEqDiff, reduceIte, fr0, okConst, okc, appendA, cellsA, boxA, allocA, storeA, loadA, fieldA, indexA, fieldV, indexV, partA, extractA, nilA, binA, intBin, unA, lenA, isAggD, isConst, Nat.reduceAdd, Nat.reduceMul, Nat.reduceLeDiff, Nat.reduceSub, Nat.reduceBEq, splice, reduceCtorEq, Int.reduceEq, Int.reduceLT, Int.reduceLE, Int.reduceNeg, Int.reduceBEq, String.reduceEq, eqFlat, tf, aOpI, frL_cons, ty56, bd56_8, List.drop_succ_cons, List.drop_zero]
    refine hK _ _ ?_
    clear hK
    obtain ⟨o6, ho6⟩ : ∃ o6, o6 = S4.length := ⟨_, rfl⟩
    have hl4 := (List.getElem?_eq_some_iff.1 hi.res).1
    have hi' : TdI S (S4 ++ [.row 56 true (cfC (rdHd r0) nilS nilS nilS)]) o (rdHdR r0) o6 (rdHd r0) nilS nilS nilS :=
      ⟨hi.more _, by rw [ho6]; simp, GrX.nil _ _ _ _, GrX.nil _ _ _ _, GrX.nil _ _ _ _, by omega⟩
    show AWp _ _ _ _ _ _ (S4 ++ [AObj.row 56 true (cfC (rdHd r0) nilS nilS nilS)])
    rw [← ho6]
    replace hi := hi'
    clear hi'
    generalize (S4 ++ [AObj.row 56 true (cfC (rdHd r0) nilS nilS nilS)]) = S4 at hi ⊢
    clear ho6 hl4
    refine AWp.weak (Wk.fr (l := [(1, .pointer (some ⟨S.length, 0, none⟩)), (2, .pointer (some ⟨S.length + 1, 0, none⟩)), (3, .nilIface), (4, .func (.func 60) #[] #[.pointer (some ⟨S.length, 0, none⟩)]), (5, .func (.func 61) #[] #[.pointer (some ⟨S.length, 0, none⟩)]), (6, .pointer (some ⟨o6, 0, none⟩))]) (by simp only [List.forall_mem_cons, vcT, wantedA, kp, kp2, kpS, kr, k1, k2, kL, kLP, kFn, kFn2, kSl, kSl2, kSl3, kC2, kP0, kP1, ev, evs, evParts, evO, Nat.reduceLT, Nat.reduceEqDiff, reduceIte, fr0, okConst, okc, appendA, cellsA, boxA, allocA, storeA, loadA, fieldA, indexA, fieldV, indexV, partA, extractA, nilA, binA, intBin, unA, lenA, isAggD, isConst, Nat.reduceAdd, Nat.reduceMul, Nat.reduceLeDiff, Nat.reduceSub, Nat.reduceBEq, splice, reduceCtorEq, Int.reduceEq, Int.reduceLT, Int.reduceLE, Int.reduceNeg, Int.reduceBEq, String.reduceEq, eqFlat, tf, aOpI, frL_cons]; simp)) ?_
    generalize hc0 : rdHd r0 = c0 at *
    have hc0p : c0.ps = [] := by rw [← hc0]; rfl
    have hc0q : c0.qs = [] := by rw [← hc0]; rfl
    have hc0r : c0.rs = [] := by rw [← hc0]; rfl
    clear hc0
    generalize rdHdR r0 = r1 at *
    have hN0 := takeV_lt hi.p.rd.ok (k := 1) (by omega)
    refine AWp.seq_region tok fun K hK => ?_
    refine aList_cut 1 fun K1 hK1 => ?_
    simp -implicitDefEqProofs only [vcT, wantedA, kp, kp2, kpS, kr, k1, k2, kL, kLP, kFn, kFn2, kSl, kSl2, kSl3, kC2, kP0, kP1, ev, evs, evParts, evO, Nat.reduceLT, Nat.reduceEqDiff, reduceIte, fr0, okConst, okc, appendA, cellsA, boxA, allocA, storeA, loadA, fieldA, indexA, fieldV, indexV, partA, extractA, nilA, binA, intBin, unA, lenA, isAggD, isConst, Nat.reduceAdd, Nat.reduceMul, Nat.reduceLeDiff, Nat.reduceSub, Nat.reduceBEq, splice, reduceCtorEq, Int.reduceEq, Int.reduceLT, Int.reduceLE, Int.reduceNeg, Int.reduceBEq, String.reduceEq, eqFlat, tf, aOpI, frL_cons, List.drop_succ_cons, List.drop_zero]
    refine hK1 _ _ ?_
    clear hK1
    refine aList_cut 1 fun K1 hK1 => ?_
    simp -implicitDefEqProofs only [vcT, wantedA, kp, kp2, kpS, kr, k1, k2, kL, kLP, kFn, kFn2, kSl, kSl2, kSl3, kC2, kP0, kP1, ev, evs, evParts, evO, Nat.reduceLT, Nat.reduceEqDiff, reduceIte, fr0, okConst, okc, appendA, cellsA, boxA, allocA, storeA, loadA, fieldA, indexA, fieldV, indexV, partA, extractA, nilA, binA, intBin, unA, lenA, isAggD, isConst, Nat.reduceAdd, Nat.reduceMul, Nat.reduceLeDiff, Nat.reduceSub, Nat.reduceBEq, splice, reduceCtorEq, Int.reduceEq, Int.reduceLT, Int.reduceLE, Int.reduceNeg, Int.reduceBEq, String.reduceEq, eqFlat, tf, aOpI, Array.toList_empty, List.drop_succ_cons, List.drop_zero, frL_cons]
    refine (ctake1 hi.p.box hi.p.rd).mono ?_
    rintro z S4 ⟨rfl, hm, hr⟩
    replace hi := hi.read hm hr
    clear hm hr
    refine hK1 _ _ ?_
    clear hK1
    have hN1 := takeV_lt hi.p.rd.ok (k := 1) (by omega)
    refine aList_cut 1 fun K1 hK1 => ?_
    simp -implicitDefEqProofs only [vcT, wantedA, kp, kp2, kpS, kr, k1, k2, kL, kLP, kFn, kFn2, kSl, kSl2, kSl3, kC2, kP0, kP1, ev, evs, evParts, evO, Nat.reduceLT, Nat.reduceEqDiff, reduceIte, fr0, okConst, okc, appendA, cellsA, boxA, allocA, storeA, loadA, fieldA, indexA, fieldV, indexV, partA, extractA, nilA, binA, intBin, unA, lenA, isAggD, isConst, Nat.reduceAdd, Nat.reduceMul, Nat.reduceLeDiff, Nat.reduceSub, Nat.reduceBEq, splice, reduceCtorEq, Int.reduceEq, Int.reduceLT, Int.reduceLE, Int.reduceNeg, Int.reduceBEq, String.reduceEq, eqFlat, tf, aOpI, frL_cons, List.drop_succ_cons, List.drop_zero]
    refine hK1 _ _ ?_
    clear hK1
    refine aList_cut 1 fun K1 hK1 => ?_
    simp -implicitDefEqProofs only [vcT, wantedA, kp, kp2, kpS, kr, k1, k2, kL, kLP, kFn, kFn2, kSl, kSl2, kSl3, kC2, kP0, kP1, ev, evs, evParts, evO, Nat.reduceLT, Nat.reduceEqDiff, reduceIte, fr0, okConst, okc, appendA, cellsA, boxA, allocA, storeA, loadA, fieldA, indexA, fieldV, indexV, partA, extractA, nilA, binA, intBin, unA, lenA, isAggD, isConst, Nat.reduceAdd, Nat.reduceMul, Nat.reduceLeDiff, Nat.reduceSub, Nat.reduceBEq, splice, reduceCtorEq, Int.reduceEq, Int.reduceLT, Int.reduceLE, Int.reduceNeg, Int.reduceBEq, String.reduceEq, eqFlat, tf, aOpI, Array.toList_empty, List.drop_succ_cons, List.drop_zero, frL_cons]
    refine (ctake1 hi.p.box hi.p.rd).mono ?_
    rintro z S4 ⟨rfl, hm, hr⟩
    replace hi := hi.read hm hr
    clear hm hr
    refine hK1 _ _ ?_
    clear hK1
    have hN2 := takeV_lt hi.p.rd.ok (k := 1) (by omega)
    refine aList_cut 1 fun K1 hK1 => ?_
    simp -implicitDefEqProofs only [vcT, wantedA, kp, kp2, kpS, kr, k1, k2, kL, kLP, kFn, kFn2, kSl, kSl2, kSl3, kC2, kP0, kP1, ev, evs, evParts, evO, Nat.reduceLT, Nat.reduceEqDiff, reduceIte, fr0, okConst, okc, appendA, cellsA, boxA, allocA, storeA, loadA, fieldA, indexA, fieldV, indexV, partA, extractA, nilA, binA, intBin, unA, lenA, isAggD, isConst, Nat.reduceAdd, Nat.reduceMul, Nat.reduceLeDiff, Nat.reduceSub, Nat.reduceBEq, splice, reduceCtorEq, Int.reduceEq, Int.reduceLT, Int.reduceLE, Int.reduceNeg, Int.reduceBEq, String.reduceEq, eqFlat, tf, aOpI, frL_cons, List.drop_succ_cons, List.drop_zero]
    refine hK1 _ _ ?_
    clear hK1
    refine aList_cut 1 fun K1 hK1 => ?_
    simp -implicitDefEqProofs only [vcT, wantedA, kp, kp2, kpS, kr, k1, k2, kL, kLP, kFn, kFn2, kSl, kSl2, kSl3, kC2, kP0, kP1, ev, evs, evParts, evO, Nat.reduceLT, Nat.reduceEqDiff, reduceIte, fr0, okConst, okc, appendA, cellsA, boxA, allocA, storeA, loadA, fieldA, indexA, fieldV, indexV, partA, extractA, nilA, binA, intBin, unA, lenA, isAggD, isConst, Nat.reduceAdd, Nat.reduceMul, Nat.reduceLeDiff, Nat.reduceSub, Nat.reduceBEq, splice, reduceCtorEq, Int.reduceEq, Int.reduceLT, Int.reduceLE, Int.reduceNeg, Int.reduceBEq, String.reduceEq, eqFlat, tf, aOpI, Array.toList_empty, List.drop_succ_cons, List.drop_zero, frL_cons]
    refine (ctake1 hi.p.box hi.p.rd).mono ?_
    rintro z S4 ⟨rfl, hm, hr⟩
    replace hi := hi.read hm hr
    clear hm hr
    refine hK1 _ _ ?_
    clear hK1
    simp -implicitDefEqProofs only [vcT, wantedA, kp, kp2, kpS, kr, k1, k2, kL, kLP, kFn, kFn2, kSl, kSl2, kSl3, kC2, kP0, kP1, ev, evs, evParts, evO, Nat.reduceLT, Nat.reduceEqDiff, reduceIte, fr0, okConst, okc, appendA, cellsA, boxA, allocA, storeA, loadA, fieldA, indexA, fieldV, indexV, partA, extractA, nilA, binA, intBin, unA, lenA, isAggD, isConst, Nat.reduceAdd, Nat.reduceMul, Nat.reduceLeDiff, Nat.reduceSub, Nat.reduceBEq, splice, reduceCtorEq, Int.reduceEq, Int.reduceLT, Int.reduceLE, Int.reduceNeg, Int.reduceBEq, String.reduceEq, eqFlat, tf, aOpI, frL_cons, List.drop_succ_cons, List.drop_zero]
    refine hK _ _ ?_
    clear hK
    generalize r1.takeV 1 = N0 at *
    generalize (r1.takeR 1).takeV 1 = N1 at *
    generalize ((r1.takeR 1).takeR 1).takeV 1 = N2 at *
    generalize ((r1.takeR 1).takeR 1).takeR 1 = r2 at *
    refine AWp.weak (Wk.fr (l := [(1, .pointer (some ⟨S.length, 0, none⟩)), (2, .pointer (some ⟨S.length + 1, 0, none⟩)), (3, .nilIface), (4, .func (.func 60) #[] #[.pointer (some ⟨S.length, 0, none⟩)]), (5, .func (.func 61) #[] #[.pointer (some ⟨S.length, 0, none⟩)]), (6, .pointer (some ⟨o6, 0, none⟩)), (7, .int .i64 (N0 : Int)), (8, .int .i64 (N1 : Int)), (9, .int .i64 (N2 : Int))]) (by simp only [List.forall_mem_cons, vcT, wantedA, kp, kp2, kpS, kr, k1, k2, kL, kLP, kFn, kFn2, kSl, kSl2, kSl3, kC2, kP0, kP1, ev, evs, evParts, evO, Nat.reduceLT, Nat.reduceEqDiff, reduceIte, fr0, okConst, okc, appendA, cellsA, boxA, allocA, storeA, loadA, fieldA, indexA, fieldV, indexV, partA, extractA, nilA, binA, intBin, unA, lenA, isAggD, isConst, Nat.reduceAdd, Nat.reduceMul, Nat.reduceLeDiff, Nat.reduceSub, Nat.reduceBEq, splice, reduceCtorEq, Int.reduceEq, Int.reduceLT, Int.reduceLE, Int.reduceNeg, Int.reduceBEq, String.reduceEq, eqFlat, tf, aOpI, frL_cons]; simp)) ?_
    refine AWp.seqK fun K0 hK0 => ?_
    refine AWp.seq_region tok fun K hK => ?_
    simp -implicitDefEqProofs only [vcT, wantedA, kp, kp2, kpS, kr, k1, k2, kL, kLP, kFn, kFn2, kSl, kSl2, kSl3, kC2, kP0, kP1, ev, evs, evParts, evO, Nat.reduceLT, Nat.reduceEqDiff, reduceIte, fr0, okConst, okc, appendA, cellsA, boxA, allocA, storeA, loadA, fieldA, indexA, fieldV, indexV, partA, extractA, nilA, binA, intBin, unA, lenA, isAggD, isConst, Nat.reduceAdd, Nat.reduceMul, Nat.reduceLeDiff, Nat.reduceSub, Nat.reduceBEq, splice, reduceCtorEq, Int.reduceEq, Int.reduceLT, Int.reduceLE, Int.reduceNeg, Int.reduceBEq, String.reduceEq, eqFlat, tf, aOpI]
    refine hK _ _ ?_
    clear hK
    refine AWp.block ?_
    have hN0' : N0 < 256 := by simpa using hN0
    have hN1' : N1 < 256 := by simpa using hN1
    have hN2' : N2 < 256 := by simpa using hN2
    clear hN0 hN1 hN2
    have hgo : ∀ (fr : Fr) (S2 : St) (r : Rd) (ps : List Pt) (vp : Value), TdI S S2 o r o6 { c0 with ps := ps } vp nilS nilS → rdPs 0 r ps = rdPs N0 r2 [] → ps.length ≤ 255 → (hfr : ∀ p ∈ ([(1, .pointer (some ⟨S.length, 0, none⟩)), (2, .pointer (some ⟨S.length + 1, 0, none⟩)), (3, .nilIface), (4, .func (.func 60) #[] #[.pointer (some ⟨S.length, 0, none⟩)]), (5, .func (.func 61) #[] #[.pointer (some ⟨S.length, 0, none⟩)]), (6, .pointer (some ⟨o6, 0, none⟩)), (7, .int .i64 (N0 : Int)), (8, .int .i64 (N1 : Int)), (9, .int .i64 (N2 : Int))] : List (Nat × Value)), fr p.1 = p.2) → K0 fr S2 := by
      intro fr S2 r ps vp hi hG' hpl hfr
      have hG : rdPs N0 r2 [] = (ps, r) := hG'.symm
      refine hK0 _ _ ?_
      clear hK0 hG'
      refine AWp.weak (Wk.fr (l := [(1, .pointer (some ⟨S.length, 0, none⟩)), (2, .pointer (some ⟨S.length + 1, 0, none⟩)), (3, .nilIface), (4, .func (.func 60) #[] #[.pointer (some ⟨S.length, 0, none⟩)]), (5, .func (.func 61) #[] #[.pointer (some ⟨S.length, 0, none⟩)]), (6, .pointer (some ⟨o6, 0, none⟩)), (7, .int .i64 (N0 : Int)), (8, .int .i64 (N1 : Int)), (9, .int .i64 (N2 : Int))]) hfr) ?_
      clear hfr fr
      have hPd1 : P = match rdQs N1 0 r [] with
          | (_, r2, some i) => (zT, [(8, (i : Int))], r2)
          | (qs, r2, none) => ({ ({ c0 with ps := ps } : Cf) with qs := qs, rs := (rdRts N2 r2 []).1 }, [], (rdRts N2 r2 []).2) := by
        rw [hPd]
        unfold rdBody
        rw [hG]
        rfl
      generalize hc1 : ({ c0 with ps := ps } : Cf) = c1 at *
      have hc1q : c1.qs = [] := by rw [← hc1]; exact hc0q
      have hc1r : c1.rs = [] := by rw [← hc1]; exact hc0r
      have hc1p : c1.ps.length ≤ 255 := by rw [← hc1]; exact hpl
      clear hPd hG hc1 hc0q hc0r hc0p hpl
      generalize hr2 : r = rq at *
      clear hr2
      generalize hTT : rdQs N1 0 rq [] = T at *
      refine AWp.seqK fun K0 hK0 => ?_
      refine AWp.seq_region tok fun K hK => ?_
      simp -implicitDefEqProofs only [vcT, wantedA, kp, kp2, kpS, kr, k1, k2, kL, kLP, kFn, kFn2, kSl, kSl2, kSl3, kC2, kP0, kP1, ev, evs, evParts, evO, Nat.reduceLT, Nat.reduceEqDiff, reduceIte, fr0, okConst, okc, appendA, cellsA, boxA, allocA, storeA, loadA, fieldA, indexA, fieldV, indexV, partA, extractA, nilA, binA, intBin, unA, lenA, isAggD, isConst, Nat.reduceAdd, Nat.reduceMul, Nat.reduceLeDiff, Nat.reduceSub, Nat.reduceBEq, splice, reduceCtorEq, Int.reduceEq, Int.reduceLT, Int.reduceLE, Int.reduceNeg, Int.reduceBEq, String.reduceEq, eqFlat, tf, aOpI]
      refine hK _ _ ?_
      clear hK
      refine AWp.block ?_
      have hgo : ∀ (fr : Fr) (S2 : St) (r : Rd) (qs : List Qt) (vq : Value), TdI S S2 o r o6 { c1 with qs := qs } vp vq nilS → (qs, r, none) = T → qs.length ≤ 255 → (hfr : ∀ p ∈ ([(1, .pointer (some ⟨S.length, 0, none⟩)), (2, .pointer (some ⟨S.length + 1, 0, none⟩)), (3, .nilIface), (4, .func (.func 60) #[] #[.pointer (some ⟨S.length, 0, none⟩)]), (5, .func (.func 61) #[] #[.pointer (some ⟨S.length, 0, none⟩)]), (6, .pointer (some ⟨o6, 0, none⟩)), (7, .int .i64 (N0 : Int)), (8, .int .i64 (N1 : Int)), (9, .int .i64 (N2 : Int))] : List (Nat × Value)), fr p.1 = p.2) → K0 fr S2 := by
        intro fr S2 r qs vq hi hT' hql' hfr
        refine hK0 _ _ ?_
        clear hK0
        refine AWp.weak (Wk.fr (l := [(1, .pointer (some ⟨S.length, 0, none⟩)), (2, .pointer (some ⟨S.length + 1, 0, none⟩)), (3, .nilIface), (4, .func (.func 60) #[] #[.pointer (some ⟨S.length, 0, none⟩)]), (5, .func (.func 61) #[] #[.pointer (some ⟨S.length, 0, none⟩)]), (6, .pointer (some ⟨o6, 0, none⟩)), (7, .int .i64 (N0 : Int)), (8, .int .i64 (N1 : Int)), (9, .int .i64 (N2 : Int))]) hfr) ?_
        clear hfr fr
        have hPd2 : P = ({ ({ c1 with qs := qs } : Cf) with rs := (rdRts N2 r []).1 }, [], (rdRts N2 r []).2) := by rw [hPd1, ← hT']
        generalize hc2 : ({ c1 with qs := qs } : Cf) = c2 at *
        have hc2r : c2.rs = [] := by rw [← hc2]; exact hc1r
        have hc2p : c2.ps.length ≤ 255 := by rw [← hc2]; exact hc1p
        have hc2q : c2.qs.length ≤ 255 := by rw [← hc2]; exact hql'
        clear hPd1 hT' hc2 hc1q hc1r hc1p hql' hTT
        generalize hr3 : r = r3 at *
        clear hr3
        refine AWp.seqK fun K0 hK0 => ?_
        refine AWp.seq_region tok fun K hK => ?_
        simp -implicitDefEqProofs only [vcT, wantedA, kp, kp2, kpS, kr, k1, k2, kL, kLP, kFn, kFn2, kSl, kSl2, kSl3, kC2, kP0, kP1, ev, evs, evParts, evO, Nat.reduceLT, Nat.reduceEqDiff, reduceIte, fr0, okConst, okc, appendA, cellsA, boxA, allocA, storeA, loadA, fieldA, indexA, fieldV, indexV, partA, extractA, nilA, binA, intBin, unA, lenA, isAggD, isConst, Nat.reduceAdd, Nat.reduceMul, Nat.reduceLeDiff, Nat.reduceSub, Nat.reduceBEq, splice, reduceCtorEq, Int.reduceEq, Int.reduceLT, Int.reduceLE, Int.reduceNeg, Int.reduceBEq, String.reduceEq, eqFlat, tf, aOpI]
        refine hK _ _ ?_
        clear hK
        refine AWp.block ?_
        have hgo : ∀ (fr : Fr) (S2 : St) (r : Rd) (rs : List Rt) (vr : Value), TdI S S2 o r o6 { c2 with rs := rs } vp vq vr → rdRts 0 r rs = rdRts N2 r3 [] → rs.length ≤ 255 → (hfr : ∀ p ∈ ([(1, .pointer (some ⟨S.length, 0, none⟩)), (2, .pointer (some ⟨S.length + 1, 0, none⟩)), (3, .nilIface), (4, .func (.func 60) #[] #[.pointer (some ⟨S.length, 0, none⟩)]), (5, .func (.func 61) #[] #[.pointer (some ⟨S.length, 0, none⟩)]), (6, .pointer (some ⟨o6, 0, none⟩)), (7, .int .i64 (N0 : Int)), (8, .int .i64 (N1 : Int)), (9, .int .i64 (N2 : Int))] : List (Nat × Value)), fr p.1 = p.2) → K0 fr S2 := by
          intro fr S2 r rs vr hi hG' hrl hfr
          have hG : rdRts N2 r3 [] = (rs, r) := hG'.symm
          refine hK0 _ _ ?_
          clear hK0 hG'
          refine AWp.weak (Wk.fr (l := [(1, .pointer (some ⟨S.length, 0, none⟩)), (2, .pointer (some ⟨S.length + 1, 0, none⟩)), (3, .nilIface), (4, .func (.func 60) #[] #[.pointer (some ⟨S.length, 0, none⟩)]), (5, .func (.func 61) #[] #[.pointer (some ⟨S.length, 0, none⟩)]), (6, .pointer (some ⟨o6, 0, none⟩)), (7, .int .i64 (N0 : Int)), (8, .int .i64 (N1 : Int)), (9, .int .i64 (N2 : Int))]) hfr) ?_
          clear hfr fr
          rw [hG] at hPd2
          subst hPd2
          dsimp only
          generalize hc3 : ({ c2 with rs := rs } : Cf) = c3 at *
          have b1 : c3.ps.length ≤ 1000 := by rw [← hc3]; dsimp only; omega
          have b2 : c3.qs.length ≤ 1000 := by rw [← hc3]; dsimp only; omega
          have b3 : c3.rs.length ≤ 1000 := by rw [← hc3]; dsimp only; omega
          have hfr := hi.fr
          have hres := hi.p.res
          have hout := hi.out b1 b2 b3 (.row 56 true (cfC c3 vp vq vr))
          have hl5 := (List.getElem?_eq_some_iff.1 hres).1
          have hr3 : ∀ x, (S2.set (S.length + 1) x)[S.length + 1]? = some x := fun x => List.getElem?_set_self hl5
          have e1 := hi.ps.one
          have e2 := hi.qs.one
          have e3 := hi.rs.one
          simp only [cfC] at hfr hres hout
          refine AWp.seq_region tok fun K hK => ?_
          simp -implicitDefEqProofs only [vcT, wantedA, kp, kp2, kpS, kr, k1, k2, kL, kLP, kFn, kFn2, kSl, kSl2, kSl3, kC2, kP0, kP1, ev, evs, evParts, evO, Nat.reduceLT, Nat.reduceEqDiff, reduceIte, fr0, okConst, okc, appendA, cellsA, boxA, allocA, storeA, loadA, fieldA, indexA, fieldV, indexV, partA, extractA, nilA, binA, intBin, unA, lenA, isAggD, isConst, Nat.reduceAdd, Nat.reduceMul, Nat.reduceLeDiff, Nat.reduceSub, Nat.reduceBEq, splice, reduceCtorEq, Int.reduceEq, Int.reduceLT, Int.reduceLE, Int.reduceNeg, Int.reduceBEq, String.reduceEq, eqFlat, tf, aOpI, frL_cons, hfr, hres, ty56, e1.1, e1.2, e2.1, e2.2, e3.1, e3.2]
          refine hK _ _ ?_
          clear hK
          refine AWp.ret ?_
          simp -implicitDefEqProofs only [vcT, wantedA, kp, kp2, kpS, kr, k1, k2, kL, kLP, kFn, kFn2, kSl, kSl2, kSl3, kC2, kP0, kP1, ev, evs, evParts, evO, Nat.reduceLT, Nat.reduceEqDiff, reduceIte, fr0, okConst, okc, appendA, cellsA, boxA, allocA, storeA, loadA, fieldA, indexA, fieldV, indexV, partA, extractA, nilA, binA, intBin, unA, lenA, isAggD, isConst, Nat.reduceAdd, Nat.reduceMul, Nat.reduceLeDiff, Nat.reduceSub, Nat.reduceBEq, splice, reduceCtorEq, Int.reduceEq, Int.reduceLT, Int.reduceLE, Int.reduceNeg, Int.reduceBEq, String.reduceEq, eqFlat, tf, aOpI, ThenA, BlockA, EndA, ressA, resA, wrapA, frL_cons, hr3, ty56]
          exact ⟨hout.1, hout.2.1, vp, vq, vr, _, rfl, hout.2.2, rfl⟩
        clear hK0
        refine AWp.loopW (fun q fr S2 => ∃ (r : Rd) (rs : List Rt) (vr : Value) (i : Nat), q + i = N2 ∧ rdRts q r rs = rdRts N2 r3 [] ∧ rs.length + q ≤ 255 ∧ TdI S S2 o r o6 { c2 with rs := rs } vp vq vr ∧ fr = frL [(1, .pointer (some ⟨S.length, 0, none⟩)), (2, .pointer (some ⟨S.length + 1, 0, none⟩)), (3, .nilIface), (4, .func (.func 60) #[] #[.pointer (some ⟨S.length, 0, none⟩)]), (5, .func (.func 61) #[] #[.pointer (some ⟨S.length, 0, none⟩)]), (6, .pointer (some ⟨o6, 0, none⟩)), (7, .int .i64 (N0 : Int)), (8, .int .i64 (N1 : Int)), (9, .int .i64 (N2 : Int)), (16, .int .i64 (i : Int))]) N2
          ⟨_, _, Wk.frame ?_, r3, [], nilS, 0, rfl, rfl, by simp; omega, by rw [← hc2r]; exact hi, rfl⟩ ?_
        · simp only [List.forall_mem_cons, vcT, wantedA, kp, kp2, kpS, kr, k1, k2, kL, kLP, kFn, kFn2, kSl, kSl2, kSl3, kC2, kP0, kP1, ev, evs, evParts, evO, Nat.reduceLT, Nat.reduceEqDiff, reduceIte, fr0, okConst, okc, appendA, cellsA, boxA, allocA, storeA, loadA, fieldA, indexA, fieldV, indexV, partA, extractA, nilA, binA, intBin, unA, lenA, isAggD, isConst, Nat.reduceAdd, Nat.reduceMul, Nat.reduceLeDiff, Nat.reduceSub, Nat.reduceBEq, splice, reduceCtorEq, Int.reduceEq, Int.reduceLT, Int.reduceLE, Int.reduceNeg, Int.reduceBEq, String.reduceEq, eqFlat, tf, aOpI, frL_cons]
          simp
        clear hi
        rintro q fr S2 ⟨r, rs, vr, i, hqi, hG, hql, hi, rfl⟩
        refine AWp.seqK fun K1 hK1 => ?_
        rcases Nat.eq_zero_or_pos q with rfl | hq0
        · have g0 : ¬ ((i : Int) < (N2 : Int)) := by omega
          refine AWp.seq_region tok fun K hK => ?_
          simp -implicitDefEqProofs only [vcT, wantedA, kp, kp2, kpS, kr, k1, k2, kL, kLP, kFn, kFn2, kSl, kSl2, kSl3, kC2, kP0, kP1, ev, evs, evParts, evO, Nat.reduceLT, Nat.reduceEqDiff, reduceIte, fr0, okConst, okc, appendA, cellsA, boxA, allocA, storeA, loadA, fieldA, indexA, fieldV, indexV, partA, extractA, nilA, binA, intBin, unA, lenA, isAggD, isConst, Nat.reduceAdd, Nat.reduceMul, Nat.reduceLeDiff, Nat.reduceSub, Nat.reduceBEq, splice, reduceCtorEq, Int.reduceEq, Int.reduceLT, Int.reduceLE, Int.reduceNeg, Int.reduceBEq, String.reduceEq, eqFlat, tf, aOpI, frL_cons, g0]
          refine hK _ _ ?_
          clear hK
          refine AWp.condF (by simp -implicitDefEqProofs only [vcT, wantedA, kp, kp2, kpS, kr, k1, k2, kL, kLP, kFn, kFn2, kSl, kSl2, kSl3, kC2, kP0, kP1, ev, evs, evParts, evO, Nat.reduceLT, Nat.reduceEqDiff, reduceIte, fr0, okConst, okc, appendA, cellsA, boxA, allocA, storeA, loadA, fieldA, indexA, fieldV, indexV, partA, extractA, nilA, binA, intBin, unA, lenA, isAggD, isConst, Nat.reduceAdd, Nat.reduceMul, Nat.reduceLeDiff, Nat.reduceSub, Nat.reduceBEq, splice, reduceCtorEq, Int.reduceEq, Int.reduceLT, Int.reduceLE, Int.reduceNeg, Int.reduceBEq, String.reduceEq, eqFlat, tf, aOpI]) ?_
          refine AWp.exit ?_
          simp only [ThenA, BlockA, if_true]
          exact hgo _ _ _ _ _ hi hG (by omega) (by simp only [List.forall_mem_cons, vcT, wantedA, kp, kp2, kpS, kr, k1, k2, kL, kLP, kFn, kFn2, kSl, kSl2, kSl3, kC2, kP0, kP1, ev, evs, evParts, evO, Nat.reduceLT, Nat.reduceEqDiff, reduceIte, fr0, okConst, okc, appendA, cellsA, boxA, allocA, storeA, loadA, fieldA, indexA, fieldV, indexV, partA, extractA, nilA, binA, intBin, unA, lenA, isAggD, isConst, Nat.reduceAdd, Nat.reduceMul, Nat.reduceLeDiff, Nat.reduceSub, Nat.reduceBEq, splice, reduceCtorEq, Int.reduceEq, Int.reduceLT, Int.reduceLE, Int.reduceNeg, Int.reduceBEq, String.reduceEq, eqFlat, tf, aOpI, frL_cons]; simp)
        have g0 : (i : Int) < (N2 : Int) := by omega
        refine AWp.seq_region tok fun K hK => ?_
        refine aList_cut 5 fun K1 hK1 => ?_
        simp -implicitDefEqProofs only [vcT, wantedA, kp, kp2, kpS, kr, k1, k2, kL, kLP, kFn, kFn2, kSl, kSl2, kSl3, kC2, kP0, kP1, ev, evs, evParts, evO, Nat.reduceLT, Nat.reduceEqDiff, reduceIte, fr0, okConst, okc, appendA, cellsA, boxA, allocA, storeA, loadA, fieldA, indexA, fieldV, indexV, partA, extractA, nilA, binA, intBin, unA, lenA, isAggD, isConst, Nat.reduceAdd, Nat.reduceMul, Nat.reduceLeDiff, Nat.reduceSub, Nat.reduceBEq, splice, reduceCtorEq, Int.reduceEq, Int.reduceLT, Int.reduceLE, Int.reduceNeg, Int.reduceBEq, String.reduceEq, eqFlat, tf, aOpI, frL_cons, g0, hi.p.box, ty71]
        refine hK1 _ _ ?_
        clear hK1
        refine aList_cut 1 fun K1 hK1 => ?_
        simp -implicitDefEqProofs only [vcT, wantedA, kp, kp2, kpS, kr, k1, k2, kL, kLP, kFn, kFn2, kSl, kSl2, kSl3, kC2, kP0, kP1, ev, evs, evParts, evO, Nat.reduceLT, Nat.reduceEqDiff, reduceIte, fr0, okConst, okc, appendA, cellsA, boxA, allocA, storeA, loadA, fieldA, indexA, fieldV, indexV, partA, extractA, nilA, binA, intBin, unA, lenA, isAggD, isConst, Nat.reduceAdd, Nat.reduceMul, Nat.reduceLeDiff, Nat.reduceSub, Nat.reduceBEq, splice, reduceCtorEq, Int.reduceEq, Int.reduceLT, Int.reduceLE, Int.reduceNeg, Int.reduceBEq, String.reduceEq, eqFlat, tf, aOpI, Array.toList_empty, List.drop_succ_cons, List.drop_zero, frL_cons]
        refine (rerr hi.p.rd).mono ?_
        rintro z S3 ⟨rfl, hx⟩
        refine hK1 _ _ ?_
        clear hK1
        rcases hx with ⟨he, rfl⟩ | ⟨he, t, v, rfl⟩
        rotate_left
        · simp -implicitDefEqProofs only [vcT, wantedA, kp, kp2, kpS, kr, k1, k2, kL, kLP, kFn, kFn2, kSl, kSl2, kSl3, kC2, kP0, kP1, ev, evs, evParts, evO, Nat.reduceLT, Nat.reduceEqDiff, reduceIte, fr0, okConst, okc, appendA, cellsA, boxA, allocA, storeA, loadA, fieldA, indexA, fieldV, indexV, partA, extractA, nilA, binA, intBin, unA, lenA, isAggD, isConst, Nat.reduceAdd, Nat.reduceMul, Nat.reduceLeDiff, Nat.reduceSub, Nat.reduceBEq, splice, reduceCtorEq, Int.reduceEq, Int.reduceLT, Int.reduceLE, Int.reduceNeg, Int.reduceBEq, String.reduceEq, eqFlat, tf, aOpI, frL_cons, ty36, isIfaceD, List.drop_succ_cons, List.drop_zero]
          refine hK _ _ ?_
          clear hK
          refine AWp.condF (by simp -implicitDefEqProofs only [vcT, wantedA, kp, kp2, kpS, kr, k1, k2, kL, kLP, kFn, kFn2, kSl, kSl2, kSl3, kC2, kP0, kP1, ev, evs, evParts, evO, Nat.reduceLT, Nat.reduceEqDiff, reduceIte, fr0, okConst, okc, appendA, cellsA, boxA, allocA, storeA, loadA, fieldA, indexA, fieldV, indexV, partA, extractA, nilA, binA, intBin, unA, lenA, isAggD, isConst, Nat.reduceAdd, Nat.reduceMul, Nat.reduceLeDiff, Nat.reduceSub, Nat.reduceBEq, splice, reduceCtorEq, Int.reduceEq, Int.reduceLT, Int.reduceLE, Int.reduceNeg, Int.reduceBEq, String.reduceEq, eqFlat, tf, aOpI]) ?_
          refine AWp.exit ?_
          simp only [ThenA, BlockA, if_true]
          have hG' : rdRts 0 r rs = rdRts N2 r3 [] := by
            rw [← hG]
            cases q with
            | zero => rfl
            | succ q => unfold rdRts; rw [if_neg he]
          exact hgo _ _ _ _ _ hi hG' (by omega) (by simp only [List.forall_mem_cons, vcT, wantedA, kp, kp2, kpS, kr, k1, k2, kL, kLP, kFn, kFn2, kSl, kSl2, kSl3, kC2, kP0, kP1, ev, evs, evParts, evO, Nat.reduceLT, Nat.reduceEqDiff, reduceIte, fr0, okConst, okc, appendA, cellsA, boxA, allocA, storeA, loadA, fieldA, indexA, fieldV, indexV, partA, extractA, nilA, binA, intBin, unA, lenA, isAggD, isConst, Nat.reduceAdd, Nat.reduceMul, Nat.reduceLeDiff, Nat.reduceSub, Nat.reduceBEq, splice, reduceCtorEq, Int.reduceEq, Int.reduceLT, Int.reduceLE, Int.reduceNeg, Int.reduceBEq, String.reduceEq, eqFlat, tf, aOpI, frL_cons]; simp)
        simp -implicitDefEqProofs only [vcT, wantedA, kp, kp2, kpS, kr, k1, k2, kL, kLP, kFn, kFn2, kSl, kSl2, kSl3, kC2, kP0, kP1, ev, evs, evParts, evO, Nat.reduceLT, Nat.reduceEqDiff, reduceIte, fr0, okConst, okc, appendA, cellsA, boxA, allocA, storeA, loadA, fieldA, indexA, fieldV, indexV, partA, extractA, nilA, binA, intBin, unA, lenA, isAggD, isConst, Nat.reduceAdd, Nat.reduceMul, Nat.reduceLeDiff, Nat.reduceSub, Nat.reduceBEq, splice, reduceCtorEq, Int.reduceEq, Int.reduceLT, Int.reduceLE, Int.reduceNeg, Int.reduceBEq, String.reduceEq, eqFlat, tf, aOpI, frL_cons, ty36, isIfaceD, List.drop_succ_cons, List.drop_zero]
        refine hK _ _ ?_
        clear hK
        refine AWp.condT (by simp -implicitDefEqProofs only [vcT, wantedA, kp, kp2, kpS, kr, k1, k2, kL, kLP, kFn, kFn2, kSl, kSl2, kSl3, kC2, kP0, kP1, ev, evs, evParts, evO, Nat.reduceLT, Nat.reduceEqDiff, reduceIte, fr0, okConst, okc, appendA, cellsA, boxA, allocA, storeA, loadA, fieldA, indexA, fieldV, indexV, partA, extractA, nilA, binA, intBin, unA, lenA, isAggD, isConst, Nat.reduceAdd, Nat.reduceMul, Nat.reduceLeDiff, Nat.reduceSub, Nat.reduceBEq, splice, reduceCtorEq, Int.reduceEq, Int.reduceLT, Int.reduceLE, Int.reduceNeg, Int.reduceBEq, String.reduceEq, eqFlat, tf, aOpI]) ?_
        refine AWp.skip ?_
        refine hK1 _ _ ?_
        clear hK1
        clear hgo
        obtain ⟨q, rfl⟩ : ∃ k, q = k + 1 := ⟨q - 1, by omega⟩
        have w0 : IntKind.wrap .i64 ((i : Int) + 1) = ((i + 1 : Nat) : Int) := by rw [IntKind.wrap_i64]; omega
        have hG' : rdRts q ((r.takeR 1).takeR 1) (rs ++ [rdRt r]) = rdRts N2 r3 [] := by
          rw [← hG]
          conv => rhs; unfold rdRts
          rw [if_pos he]
        clear hG
        refine AWp.seqK fun K1 hK1 => ?_
        refine AWp.block ?_
        have t0 := onlyT_get o6 (.row 56 true (cfC { c2 with rs := rs } vp vq vr))
        have f10c : (cfC { c2 with rs := rs } vp vq vr)[10]? = some vr := rfl
        refine AWp.drawK tok mixed [(0, 3), (1, 0), (2, 3), (4, 3), (3, 1), (5, 1), (6, 1), (7, 1), (8, 2), (9, 2), (10, 2)] (onlyT o6 (.row 56 true (cfC { c2 with rs := rs } vp vq vr))) (by kernel_rfl) (onlyT_le hi.fr) fun K hK => ?_
        refine aPlan_cut 4 fun K1 hK1 => ?_
        simp -implicitDefEqProofs only [vcT, wantedA, kp, kp2, kpS, kr, k1, k2, kL, kLP, kFn, kFn2, kSl, kSl2, kSl3, kC2, kP0, kP1, ev, evs, evParts, evO, Nat.reduceLT, Nat.reduceEqDiff, reduceIte, fr0, okConst, okc, appendA, cellsA, boxA, allocA, storeA, loadA, fieldA, indexA, fieldV, indexV, partA, extractA, nilA, binA, intBin, unA, lenA, isAggD, isConst, Nat.reduceAdd, Nat.reduceMul, Nat.reduceLeDiff, Nat.reduceSub, Nat.reduceBEq, splice, reduceCtorEq, Int.reduceEq, Int.reduceLT, Int.reduceLE, Int.reduceNeg, Int.reduceBEq, String.reduceEq, eqFlat, tf, aOpI, frL_cons, ty56, ty54, t0, f10c]
        refine hK1 _ _ ?_
        clear hK1
        refine aPlan_cut 1 fun K1 hK1 => ?_
        simp -implicitDefEqProofs only [vcT, wantedA, kp, kp2, kpS, kr, k1, k2, kL, kLP, kFn, kFn2, kSl, kSl2, kSl3, kC2, kP0, kP1, ev, evs, evParts, evO, Nat.reduceLT, Nat.reduceEqDiff, reduceIte, fr0, okConst, okc, appendA, cellsA, boxA, allocA, storeA, loadA, fieldA, indexA, fieldV, indexV, partA, extractA, nilA, binA, intBin, unA, lenA, isAggD, isConst, Nat.reduceAdd, Nat.reduceMul, Nat.reduceLeDiff, Nat.reduceSub, Nat.reduceBEq, splice, reduceCtorEq, Int.reduceEq, Int.reduceLT, Int.reduceLE, Int.reduceNeg, Int.reduceBEq, String.reduceEq, eqFlat, tf, aOpI, Array.toList_empty]
        refine (ctake1 hi.p.box hi.p.rd).mono ?_
        rintro z S4 ⟨rfl, hm, hr⟩
        replace hi := hi.read hm hr
        clear hm hr
        refine ⟨onlyT_le hi.fr, hK1 _ _ ?_⟩
        clear hK1
        refine aPlan_cut 1 fun K1 hK1 => ?_
        simp -implicitDefEqProofs only [vcT, wantedA, kp, kp2, kpS, kr, k1, k2, kL, kLP, kFn, kFn2, kSl, kSl2, kSl3, kC2, kP0, kP1, ev, evs, evParts, evO, Nat.reduceLT, Nat.reduceEqDiff, reduceIte, fr0, okConst, okc, appendA, cellsA, boxA, allocA, storeA, loadA, fieldA, indexA, fieldV, indexV, partA, extractA, nilA, binA, intBin, unA, lenA, isAggD, isConst, Nat.reduceAdd, Nat.reduceMul, Nat.reduceLeDiff, Nat.reduceSub, Nat.reduceBEq, splice, reduceCtorEq, Int.reduceEq, Int.reduceLT, Int.reduceLE, Int.reduceNeg, Int.reduceBEq, String.reduceEq, eqFlat, tf, aOpI, Array.toList_empty]
        refine (ctake1 hi.p.box hi.p.rd).mono ?_
        rintro z S4 ⟨rfl, hm, hr⟩
        replace hi := hi.read hm hr
        clear hm hr
        refine ⟨onlyT_le hi.fr, hK1 _ _ ?_⟩
        clear hK1
        obtain ⟨u, S6, a1, a2, a3, a4, hi6⟩ := hi.addRt (m := rdRt r) (by dsimp only; omega)
        have t1 := eq_true (onlyT_le (at_old hi.fr [.row 113 true (rdRt r).cells]))
        have t2 := eq_true (onlyT_le a2)
        have t3 := eq_true (onlyT_le hi.fr)
        simp only [Rt.cells, rdRt] at a1 t1
        have hset : (cfC { c2 with rs := rs } vp vq vr).set 10 u = cfC { c2 with rs := rs ++ [rdRt r] } vp vq u := rfl
        simp -implicitDefEqProofs only [vcT, wantedA, kp, kp2, kpS, kr, k1, k2, kL, kLP, kFn, kFn2, kSl, kSl2, kSl3, kC2, kP0, kP1, ev, evs, evParts, evO, Nat.reduceLT, Nat.reduceEqDiff, reduceIte, fr0, okConst, okc, cellsA, boxA, allocA, storeA, loadA, fieldA, indexA, fieldV, indexV, partA, extractA, nilA, binA, intBin, unA, lenA, isAggD, isConst, Nat.reduceAdd, Nat.reduceMul, Nat.reduceLeDiff, Nat.reduceSub, Nat.reduceBEq, splice, reduceCtorEq, Int.reduceEq, Int.reduceLT, Int.reduceLE, Int.reduceNeg, Int.reduceBEq, String.reduceEq, eqFlat, tf, aOpI, frL_cons, bd113_2, bs54_1, t1, t2, t3, a1, a2, a3, a4, ty56, ty54, cfC_len, hset, List.drop_succ_cons, List.drop_zero]
        refine hK _ _ ?_
        clear hK
        refine hK1 _ _ ?_
        clear hK1
        refine AWp.regionK tok fun K hK => ?_
        simp -implicitDefEqProofs only [vcT, wantedA, kp, kp2, kpS, kr, k1, k2, kL, kLP, kFn, kFn2, kSl, kSl2, kSl3, kC2, kP0, kP1, ev, evs, evParts, evO, Nat.reduceLT, Nat.reduceEqDiff, reduceIte, fr0, okConst, okc, appendA, cellsA, boxA, allocA, storeA, loadA, fieldA, indexA, fieldV, indexV, partA, extractA, nilA, binA, intBin, unA, lenA, isAggD, isConst, Nat.reduceAdd, Nat.reduceMul, Nat.reduceLeDiff, Nat.reduceSub, Nat.reduceBEq, splice, reduceCtorEq, Int.reduceEq, Int.reduceLT, Int.reduceLE, Int.reduceNeg, Int.reduceBEq, String.reduceEq, eqFlat, tf, aOpI, frL_cons, w0]
        refine hK _ _ ?_
        clear hK
        exact ⟨q, _, _, by omega, Wk.frame (by simp only [List.forall_mem_cons, vcT, wantedA, kp, kp2, kpS, kr, k1, k2, kL, kLP, kFn, kFn2, kSl, kSl2, kSl3, kC2, kP0, kP1, ev, evs, evParts, evO, Nat.reduceLT, Nat.reduceEqDiff, reduceIte, fr0, okConst, okc, appendA, cellsA, boxA, allocA, storeA, loadA, fieldA, indexA, fieldV, indexV, partA, extractA, nilA, binA, intBin, unA, lenA, isAggD, isConst, Nat.reduceAdd, Nat.reduceMul, Nat.reduceLeDiff, Nat.reduceSub, Nat.reduceBEq, splice, reduceCtorEq, Int.reduceEq, Int.reduceLT, Int.reduceLE, Int.reduceNeg, Int.reduceBEq, String.reduceEq, eqFlat, tf, aOpI, frL_cons]; simp), _, _, u, i + 1, by omega, hG', by simp; omega, hi6, rfl⟩
      clear hK0
      refine AWp.loopW (fun q fr S2 => ∃ (r : Rd) (qs : List Qt) (vq : Value) (i : Nat), q + i = N1 ∧ rdQs q i r qs = T ∧ qs.length + q ≤ 255 ∧ TdI S S2 o r o6 { c1 with qs := qs } vp vq nilS ∧ fr = frL [(1, .pointer (some ⟨S.length, 0, none⟩)), (2, .pointer (some ⟨S.length + 1, 0, none⟩)), (3, .nilIface), (4, .func (.func 60) #[] #[.pointer (some ⟨S.length, 0, none⟩)]), (5, .func (.func 61) #[] #[.pointer (some ⟨S.length, 0, none⟩)]), (6, .pointer (some ⟨o6, 0, none⟩)), (7, .int .i64 (N0 : Int)), (8, .int .i64 (N1 : Int)), (9, .int .i64 (N2 : Int)), (13, .int .i64 (i : Int))]) N1
        ⟨_, _, Wk.frame ?_, rq, [], nilS, 0, rfl, hTT, by simp; omega, by rw [← hc1q]; exact hi, rfl⟩ ?_
      · simp only [List.forall_mem_cons, vcT, wantedA, kp, kp2, kpS, kr, k1, k2, kL, kLP, kFn, kFn2, kSl, kSl2, kSl3, kC2, kP0, kP1, ev, evs, evParts, evO, Nat.reduceLT, Nat.reduceEqDiff, reduceIte, fr0, okConst, okc, appendA, cellsA, boxA, allocA, storeA, loadA, fieldA, indexA, fieldV, indexV, partA, extractA, nilA, binA, intBin, unA, lenA, isAggD, isConst, Nat.reduceAdd, Nat.reduceMul, Nat.reduceLeDiff, Nat.reduceSub, Nat.reduceBEq, splice, reduceCtorEq, Int.reduceEq, Int.reduceLT, Int.reduceLE, Int.reduceNeg, Int.reduceBEq, String.reduceEq, eqFlat, tf, aOpI, frL_cons]
        simp
      clear hi
      rintro q fr S2 ⟨r, qs, vq, i, hqi, hG, hql, hi, rfl⟩
      refine AWp.seqK fun K1 hK1 => ?_
      rcases Nat.eq_zero_or_pos q with rfl | hq0
      · have g0 : ¬ ((i : Int) < (N1 : Int)) := by omega
        refine AWp.seq_region tok fun K hK => ?_
        simp -implicitDefEqProofs only [vcT, wantedA, kp, kp2, kpS, kr, k1, k2, kL, kLP, kFn, kFn2, kSl, kSl2, kSl3, kC2, kP0, kP1, ev, evs, evParts, evO, Nat.reduceLT, Nat.reduceEqDiff, reduceIte, fr0, okConst, okc, appendA, cellsA, boxA, allocA, storeA, loadA, fieldA, indexA, fieldV, indexV, partA, extractA, nilA, binA, intBin, unA, lenA, isAggD, isConst, Nat.reduceAdd, Nat.reduceMul, Nat.reduceLeDiff, Nat.reduceSub, Nat.reduceBEq, splice, reduceCtorEq, Int.reduceEq, Int.reduceLT, Int.reduceLE, Int.reduceNeg, Int.reduceBEq, String.reduceEq, eqFlat, tf, aOpI, frL_cons, g0]
        refine hK _ _ ?_
        clear hK
        refine AWp.condF (by simp -implicitDefEqProofs only [vcT, wantedA, kp, kp2, kpS, kr, k1, k2, kL, kLP, kFn, kFn2, kSl, kSl2, kSl3, kC2, kP0, kP1, ev, evs, evParts, evO, Nat.reduceLT, Nat.reduceEqDiff, reduceIte, fr0, okConst, okc, appendA, cellsA, boxA, allocA, storeA, loadA, fieldA, indexA, fieldV, indexV, partA, extractA, nilA, binA, intBin, unA, lenA, isAggD, isConst, Nat.reduceAdd, Nat.reduceMul, Nat.reduceLeDiff, Nat.reduceSub, Nat.reduceBEq, splice, reduceCtorEq, Int.reduceEq, Int.reduceLT, Int.reduceLE, Int.reduceNeg, Int.reduceBEq, String.reduceEq, eqFlat, tf, aOpI]) ?_
        refine AWp.exit ?_
        simp only [ThenA, BlockA, if_true]
        exact hgo _ _ _ _ _ hi hG (by omega) (by simp only [List.forall_mem_cons, vcT, wantedA, kp, kp2, kpS, kr, k1, k2, kL, kLP, kFn, kFn2, kSl, kSl2, kSl3, kC2, kP0, kP1, ev, evs, evParts, evO, Nat.reduceLT, Nat.reduceEqDiff, reduceIte, fr0, okConst, okc, appendA, cellsA, boxA, allocA, storeA, loadA, fieldA, indexA, fieldV, indexV, partA, extractA, nilA, binA, intBin, unA, lenA, isAggD, isConst, Nat.reduceAdd, Nat.reduceMul, Nat.reduceLeDiff, Nat.reduceSub, Nat.reduceBEq, splice, reduceCtorEq, Int.reduceEq, Int.reduceLT, Int.reduceLE, Int.reduceNeg, Int.reduceBEq, String.reduceEq, eqFlat, tf, aOpI, frL_cons]; simp)
      have g0 : (i : Int) < (N1 : Int) := by omega
      refine AWp.seq_region tok fun K hK => ?_
      refine aList_cut 5 fun K1 hK1 => ?_
      simp -implicitDefEqProofs only [vcT, wantedA, kp, kp2, kpS, kr, k1, k2, kL, kLP, kFn, kFn2, kSl, kSl2, kSl3, kC2, kP0, kP1, ev, evs, evParts, evO, Nat.reduceLT, Nat.reduceEqDiff, reduceIte, fr0, okConst, okc, appendA, cellsA, boxA, allocA, storeA, loadA, fieldA, indexA, fieldV, indexV, partA, extractA, nilA, binA, intBin, unA, lenA, isAggD, isConst, Nat.reduceAdd, Nat.reduceMul, Nat.reduceLeDiff, Nat.reduceSub, Nat.reduceBEq, splice, reduceCtorEq, Int.reduceEq, Int.reduceLT, Int.reduceLE, Int.reduceNeg, Int.reduceBEq, String.reduceEq, eqFlat, tf, aOpI, frL_cons, g0, hi.p.box, ty71]
      refine hK1 _ _ ?_
      clear hK1
      refine aList_cut 1 fun K1 hK1 => ?_
      simp -implicitDefEqProofs only [vcT, wantedA, kp, kp2, kpS, kr, k1, k2, kL, kLP, kFn, kFn2, kSl, kSl2, kSl3, kC2, kP0, kP1, ev, evs, evParts, evO, Nat.reduceLT, Nat.reduceEqDiff, reduceIte, fr0, okConst, okc, appendA, cellsA, boxA, allocA, storeA, loadA, fieldA, indexA, fieldV, indexV, partA, extractA, nilA, binA, intBin, unA, lenA, isAggD, isConst, Nat.reduceAdd, Nat.reduceMul, Nat.reduceLeDiff, Nat.reduceSub, Nat.reduceBEq, splice, reduceCtorEq, Int.reduceEq, Int.reduceLT, Int.reduceLE, Int.reduceNeg, Int.reduceBEq, String.reduceEq, eqFlat, tf, aOpI, Array.toList_empty, List.drop_succ_cons, List.drop_zero, frL_cons]
      refine (rerr hi.p.rd).mono ?_
      rintro z S3 ⟨rfl, hx⟩
      refine hK1 _ _ ?_
      clear hK1
      rcases hx with ⟨he, rfl⟩ | ⟨he, t, v, rfl⟩
      rotate_left
      · simp -implicitDefEqProofs only [vcT, wantedA, kp, kp2, kpS, kr, k1, k2, kL, kLP, kFn, kFn2, kSl, kSl2, kSl3, kC2, kP0, kP1, ev, evs, evParts, evO, Nat.reduceLT, Nat.reduceEqDiff, reduceIte, fr0, okConst, okc, appendA, cellsA, boxA, allocA, storeA, loadA, fieldA, indexA, fieldV, indexV, partA, extractA, nilA, binA, intBin, unA, lenA, isAggD, isConst, Nat.reduceAdd, Nat.reduceMul, Nat.reduceLeDiff, Nat.reduceSub, Nat.reduceBEq, splice, reduceCtorEq, Int.reduceEq, Int.reduceLT, Int.reduceLE, Int.reduceNeg, Int.reduceBEq, String.reduceEq, eqFlat, tf, aOpI, frL_cons, ty36, isIfaceD, List.drop_succ_cons, List.drop_zero]
        refine hK _ _ ?_
        clear hK
        refine AWp.condF (by simp -implicitDefEqProofs only [vcT, wantedA, kp, kp2, kpS, kr, k1, k2, kL, kLP, kFn, kFn2, kSl, kSl2, kSl3, kC2, kP0, kP1, ev, evs, evParts, evO, Nat.reduceLT, Nat.reduceEqDiff, reduceIte, fr0, okConst, okc, appendA, cellsA, boxA, allocA, storeA, loadA, fieldA, indexA, fieldV, indexV, partA, extractA, nilA, binA, intBin, unA, lenA, isAggD, isConst, Nat.reduceAdd, Nat.reduceMul, Nat.reduceLeDiff, Nat.reduceSub, Nat.reduceBEq, splice, reduceCtorEq, Int.reduceEq, Int.reduceLT, Int.reduceLE, Int.reduceNeg, Int.reduceBEq, String.reduceEq, eqFlat, tf, aOpI]) ?_
        refine AWp.exit ?_
        simp only [ThenA, BlockA, if_true]
        have hG' : (qs, r, none) = T := by
          rw [← hG]
          cases q with
          | zero => rfl
          | succ q => unfold rdQs; rw [if_neg he]
        exact hgo _ _ _ _ _ hi hG' (by omega) (by simp only [List.forall_mem_cons, vcT, wantedA, kp, kp2, kpS, kr, k1, k2, kL, kLP, kFn, kFn2, kSl, kSl2, kSl3, kC2, kP0, kP1, ev, evs, evParts, evO, Nat.reduceLT, Nat.reduceEqDiff, reduceIte, fr0, okConst, okc, appendA, cellsA, boxA, allocA, storeA, loadA, fieldA, indexA, fieldV, indexV, partA, extractA, nilA, binA, intBin, unA, lenA, isAggD, isConst, Nat.reduceAdd, Nat.reduceMul, Nat.reduceLeDiff, Nat.reduceSub, Nat.reduceBEq, splice, reduceCtorEq, Int.reduceEq, Int.reduceLT, Int.reduceLE, Int.reduceNeg, Int.reduceBEq, String.reduceEq, eqFlat, tf, aOpI, frL_cons]; simp)
      simp -implicitDefEqProofs only [vcT, wantedA, kp, kp2, kpS, kr, k1, k2, kL, kLP, kFn, kFn2, kSl, kSl2, kSl3, kC2, kP0, kP1, ev, evs, evParts, evO, Nat.reduceLT, Nat.reduceEqDiff, reduceIte, fr0, okConst, okc, appendA, cellsA, boxA, allocA, storeA, loadA, fieldA, indexA, fieldV, indexV, partA, extractA, nilA, binA, intBin, unA, lenA, isAggD, isConst, Nat.reduceAdd, Nat.reduceMul, Nat.reduceLeDiff, Nat.reduceSub, Nat.reduceBEq, splice, reduceCtorEq, Int.reduceEq, Int.reduceLT, Int.reduceLE, Int.reduceNeg, Int.reduceBEq, String.reduceEq, eqFlat, tf, aOpI, frL_cons, ty36, isIfaceD, List.drop_succ_cons, List.drop_zero]
      refine hK _ _ ?_
      clear hK
      refine AWp.condT (by simp -implicitDefEqProofs only [vcT, wantedA, kp, kp2, kpS, kr, k1, k2, kL, kLP, kFn, kFn2, kSl, kSl2, kSl3, kC2, kP0, kP1, ev, evs, evParts, evO, Nat.reduceLT, Nat.reduceEqDiff, reduceIte, fr0, okConst, okc, appendA, cellsA, boxA, allocA, storeA, loadA, fieldA, indexA, fieldV, indexV, partA, extractA, nilA, binA, intBin, unA, lenA, isAggD, isConst, Nat.reduceAdd, Nat.reduceMul, Nat.reduceLeDiff, Nat.reduceSub, Nat.reduceBEq, splice, reduceCtorEq, Int.reduceEq, Int.reduceLT, Int.reduceLE, Int.reduceNeg, Int.reduceBEq, String.reduceEq, eqFlat, tf, aOpI]) ?_
      refine AWp.skip ?_
      refine hK1 _ _ ?_
      clear hK1
      clear hgo
      obtain ⟨q, rfl⟩ : ∃ k, q = k + 1 := ⟨q - 1, by omega⟩
      have w0 : IntKind.wrap .i64 ((i : Int) + 1) = ((i + 1 : Nat) : Int) := by rw [IntKind.wrap_i64]; omega
      have hodd : 1 < rdQtW r ∧ (rdQtM r).err = none → T = (qs, rdQtM r, some i) := by
        intro ho
        rw [← hG]
        unfold rdQs
        rw [if_pos he, if_pos ho]
      have hev : ¬ (1 < rdQtW r ∧ (rdQtM r).err = none) → rdQs q (i + 1) (rdQtR r) (qs ++ [rdQt r]) = T := by
        intro ho
        rw [← hG]
        conv => rhs; unfold rdQs
        rw [if_pos he, if_neg ho]
      clear hG
      refine AWp.seqK fun K1 hK1 => ?_
      refine AWp.block ?_
      refine AWp.seq_region tok fun K hK => ?_
      refine aList_cut 1 fun K1 hK1 => ?_
      simp -implicitDefEqProofs only [vcT, wantedA, kp, kp2, kpS, kr, k1, k2, kL, kLP, kFn, kFn2, kSl, kSl2, kSl3, kC2, kP0, kP1, ev, evs, evParts, evO, Nat.reduceLT, Nat.reduceEqDiff, reduceIte, fr0, okConst, okc, appendA, cellsA, boxA, allocA, storeA, loadA, fieldA, indexA, fieldV, indexV, partA, extractA, nilA, binA, intBin, unA, lenA, isAggD, isConst, Nat.reduceAdd, Nat.reduceMul, Nat.reduceLeDiff, Nat.reduceSub, Nat.reduceBEq, splice, reduceCtorEq, Int.reduceEq, Int.reduceLT, Int.reduceLE, Int.reduceNeg, Int.reduceBEq, String.reduceEq, eqFlat, tf, aOpI, frL_cons, List.drop_succ_cons, List.drop_zero]
      refine hK1 _ _ ?_
      clear hK1
      refine aList_cut 1 fun K1 hK1 => ?_
      simp -implicitDefEqProofs only [vcT, wantedA, kp, kp2, kpS, kr, k1, k2, kL, kLP, kFn, kFn2, kSl, kSl2, kSl3, kC2, kP0, kP1, ev, evs, evParts, evO, Nat.reduceLT, Nat.reduceEqDiff, reduceIte, fr0, okConst, okc, appendA, cellsA, boxA, allocA, storeA, loadA, fieldA, indexA, fieldV, indexV, partA, extractA, nilA, binA, intBin, unA, lenA, isAggD, isConst, Nat.reduceAdd, Nat.reduceMul, Nat.reduceLeDiff, Nat.reduceSub, Nat.reduceBEq, splice, reduceCtorEq, Int.reduceEq, Int.reduceLT, Int.reduceLE, Int.reduceNeg, Int.reduceBEq, String.reduceEq, eqFlat, tf, aOpI, Array.toList_empty, List.drop_succ_cons, List.drop_zero, frL_cons]
      refine (ctake1 hi.p.box hi.p.rd).mono ?_
      rintro z S4 ⟨rfl, hm, hr⟩
      replace hi := hi.read hm hr
      clear hm hr
      refine hK1 _ _ ?_
      clear hK1
      have z1 := wU8 hi.p.rd.ok
      refine aList_cut 1 fun K1 hK1 => ?_
      simp -implicitDefEqProofs only [vcT, wantedA, kp, kp2, kpS, kr, k1, k2, kL, kLP, kFn, kFn2, kSl, kSl2, kSl3, kC2, kP0, kP1, ev, evs, evParts, evO, Nat.reduceLT, Nat.reduceEqDiff, reduceIte, fr0, okConst, okc, appendA, cellsA, boxA, allocA, storeA, loadA, fieldA, indexA, fieldV, indexV, partA, extractA, nilA, binA, intBin, unA, lenA, isAggD, isConst, Nat.reduceAdd, Nat.reduceMul, Nat.reduceLeDiff, Nat.reduceSub, Nat.reduceBEq, splice, reduceCtorEq, Int.reduceEq, Int.reduceLT, Int.reduceLE, Int.reduceNeg, Int.reduceBEq, String.reduceEq, eqFlat, tf, aOpI, frL_cons, List.drop_succ_cons, List.drop_zero]
      refine hK1 _ _ ?_
      clear hK1
      refine aList_cut 1 fun K1 hK1 => ?_
      simp -implicitDefEqProofs only [vcT, wantedA, kp, kp2, kpS, kr, k1, k2, kL, kLP, kFn, kFn2, kSl, kSl2, kSl3, kC2, kP0, kP1, ev, evs, evParts, evO, Nat.reduceLT, Nat.reduceEqDiff, reduceIte, fr0, okConst, okc, appendA, cellsA, boxA, allocA, storeA, loadA, fieldA, indexA, fieldV, indexV, partA, extractA, nilA, binA, intBin, unA, lenA, isAggD, isConst, Nat.reduceAdd, Nat.reduceMul, Nat.reduceLeDiff, Nat.reduceSub, Nat.reduceBEq, splice, reduceCtorEq, Int.reduceEq, Int.reduceLT, Int.reduceLE, Int.reduceNeg, Int.reduceBEq, String.reduceEq, eqFlat, tf, aOpI, Array.toList_empty, List.drop_succ_cons, List.drop_zero, frL_cons]
      refine (ctake1 hi.p.box hi.p.rd).mono ?_
      rintro z S4 ⟨rfl, hm, hr⟩
      replace hi := hi.read hm hr
      clear hm hr
      refine hK1 _ _ ?_
      clear hK1
      simp -implicitDefEqProofs only [vcT, wantedA, kp, kp2, kpS, kr, k1, k2, kL, kLP, kFn, kFn2, kSl, kSl2, kSl3, kC2, kP0, kP1, ev, evs, evParts, evO, Nat.reduceLT, Nat.reduceEqDiff, reduceIte, fr0, okConst, okc, appendA, cellsA, boxA, allocA, storeA, loadA, fieldA, indexA, fieldV, indexV, partA, extractA, nilA, binA, intBin, unA, lenA, isAggD, isConst, Nat.reduceAdd, Nat.reduceMul, Nat.reduceLeDiff, Nat.reduceSub, Nat.reduceBEq, splice, reduceCtorEq, Int.reduceEq, Int.reduceLT, Int.reduceLE, Int.reduceNeg, Int.reduceBEq, String.reduceEq, eqFlat, tf, aOpI, frL_cons, ty3, ty109, ty111, convA, z1, bd111_2, List.drop_succ_cons, List.drop_zero]
      refine hK _ _ ?_
      clear hK
      obtain ⟨hap, haq⟩ := hi.app_
      obtain ⟨x, hx⟩ : ∃ x, x = S4.length := ⟨_, rfl⟩
      rw [← hx] at hap haq ⊢
      have hxlo : S.length + 1 < x := by have := (List.getElem?_eq_some_iff.1 hi.fr).1; have := hi.lo6; omega
      have holx : x ≠ o := by have := hi.p.lo; omega
      have hfinQ : [Value.int .i64 ((r.takeV 1 : Nat) : Int), .int .u8 ((((r.takeR 1).takeV 1 : Nat)) : Int), .bool (decide (((r.takeR 1).takeR 1).takeV 1 = 1)), .int .i64 (((rdQtM r).takeV 1 : Nat) : Int), .int .i64 ((((rdQtM r).takeR 1).takeV 1 : Nat) : Int), .int .i64 (((((rdQtM r).takeR 1).takeR 1).takeV 1 : Nat) : Int)] = (rdQt r).cells := rfl
      have hodd' : 1 < ((r.takeR 1).takeR 1).takeV 1 ∧ (((r.takeR 1).takeR 1).takeR 1).err = none → T = (qs, rdQtM r, some i) := hodd
      have hev' : ¬ (1 < ((r.takeR 1).takeR 1).takeV 1 ∧ (((r.takeR 1).takeR 1).takeR 1).err = none) → rdQs q (i + 1) (rdQtR r) (qs ++ [rdQt r]) = T := hev
      clear hodd hev
      have hRR : rdQtR r = (((rdQtM r).takeR 1).takeR 1).takeR 1 := rfl
      have hMM : rdQtM r = ((r.takeR 1).takeR 1).takeR 1 := rfl
      rw [hRR] at hev'
      rw [← hMM] at hodd' hev'
      have ht : (S4 ++ [AObj.row 111 true [.int .i64 ((r.takeV 1 : Nat) : Int), .int .u8 (((r.takeR 1).takeV 1 : Nat) : Int), .bool false, .int .i64 0, .int .i64 0, .int .i64 0]])[x]? = some (.row 111 true [.int .i64 ((r.takeV 1 : Nat) : Int), .int .u8 (((r.takeR 1).takeV 1 : Nat) : Int), .bool false, .int .i64 0, .int .i64 0, .int .i64 0]) := by rw [hx]; simp
      replace hi := hi.more [.row 111 true [.int .i64 ((r.takeV 1 : Nat) : Int), .int .u8 (((r.takeR 1).takeV 1 : Nat) : Int), .bool false, .int .i64 0, .int .i64 0, .int .i64 0]]
      generalize (S4 ++ [AObj.row 111 true [.int .i64 ((r.takeV 1 : Nat) : Int), .int .u8 (((r.takeR 1).takeV 1 : Nat) : Int), .bool false, .int .i64 0, .int .i64 0, .int .i64 0]]) = S5 at hi ht ⊢
      clear hx
      refine AWp.weak (Wk.fr (l := [(1, .pointer (some ⟨S.length, 0, none⟩)), (2, .pointer (some ⟨S.length + 1, 0, none⟩)), (3, .nilIface), (4, .func (.func 60) #[] #[.pointer (some ⟨S.length, 0, none⟩)]), (5, .func (.func 61) #[] #[.pointer (some ⟨S.length, 0, none⟩)]), (6, .pointer (some ⟨o6, 0, none⟩)), (7, .int .i64 (N0 : Int)), (8, .int .i64 (N1 : Int)), (9, .int .i64 (N2 : Int)), (13, .int .i64 (i : Int)), (14, .pointer (some ⟨x, 0, none⟩))]) (by simp only [List.forall_mem_cons, vcT, wantedA, kp, kp2, kpS, kr, k1, k2, kL, kLP, kFn, kFn2, kSl, kSl2, kSl3, kC2, kP0, kP1, ev, evs, evParts, evO, Nat.reduceLT, Nat.reduceEqDiff, reduceIte, fr0, okConst, okc, appendA, cellsA, boxA, allocA, storeA, loadA, fieldA, indexA, fieldV, indexV, partA, extractA, nilA, binA, intBin, unA, lenA, isAggD, isConst, Nat.reduceAdd, Nat.reduceMul, Nat.reduceLeDiff, Nat.reduceSub, Nat.reduceBEq, splice, reduceCtorEq, Int.reduceEq, Int.reduceLT, Int.reduceLE, Int.reduceNeg, Int.reduceBEq, String.reduceEq, eqFlat, tf, aOpI, frL_cons]; simp)) ?_
      refine AWp.seq_region tok fun K hK => ?_
      refine aList_cut 1 fun K1 hK1 => ?_
      simp -implicitDefEqProofs only [vcT, wantedA, kp, kp2, kpS, kr, k1, k2, kL, kLP, kFn, kFn2, kSl, kSl2, kSl3, kC2, kP0, kP1, ev, evs, evParts, evO, Nat.reduceLT, Nat.reduceEqDiff, reduceIte, fr0, okConst, okc, appendA, cellsA, boxA, allocA, storeA, loadA, fieldA, indexA, fieldV, indexV, partA, extractA, nilA, binA, intBin, unA, lenA, isAggD, isConst, Nat.reduceAdd, Nat.reduceMul, Nat.reduceLeDiff, Nat.reduceSub, Nat.reduceBEq, splice, reduceCtorEq, Int.reduceEq, Int.reduceLT, Int.reduceLE, Int.reduceNeg, Int.reduceBEq, String.reduceEq, eqFlat, tf, aOpI, frL_cons, List.drop_succ_cons, List.drop_zero]
      refine hK1 _ _ ?_
      clear hK1
      refine aList_cut 1 fun K1 hK1 => ?_
      simp -implicitDefEqProofs only [vcT, wantedA, kp, kp2, kpS, kr, k1, k2, kL, kLP, kFn, kFn2, kSl, kSl2, kSl3, kC2, kP0, kP1, ev, evs, evParts, evO, Nat.reduceLT, Nat.reduceEqDiff, reduceIte, fr0, okConst, okc, appendA, cellsA, boxA, allocA, storeA, loadA, fieldA, indexA, fieldV, indexV, partA, extractA, nilA, binA, intBin, unA, lenA, isAggD, isConst, Nat.reduceAdd, Nat.reduceMul, Nat.reduceLeDiff, Nat.reduceSub, Nat.reduceBEq, splice, reduceCtorEq, Int.reduceEq, Int.reduceLT, Int.reduceLE, Int.reduceNeg, Int.reduceBEq, String.reduceEq, eqFlat, tf, aOpI, Array.toList_empty, List.drop_succ_cons, List.drop_zero, frL_cons]
      refine (ctake1 hi.p.box hi.p.rd).mono ?_
      rintro z S4 ⟨rfl, hm, hr⟩
      replace ht := hm.get ht holx
      replace hi := hi.read hm hr
      clear hm hr
      refine hK1 _ _ ?_
      clear hK1
      simp -implicitDefEqProofs only [vcT, wantedA, kp, kp2, kpS, kr, k1, k2, kL, kLP, kFn, kFn2, kSl, kSl2, kSl3, kC2, kP0, kP1, ev, evs, evParts, evO, Nat.reduceLT, Nat.reduceEqDiff, reduceIte, fr0, okConst, okc, appendA, cellsA, boxA, allocA, storeA, loadA, fieldA, indexA, fieldV, indexV, partA, extractA, nilA, binA, intBin, unA, lenA, isAggD, isConst, Nat.reduceAdd, Nat.reduceMul, Nat.reduceLeDiff, Nat.reduceSub, Nat.reduceBEq, splice, reduceCtorEq, Int.reduceEq, Int.reduceLT, Int.reduceLE, Int.reduceNeg, Int.reduceBEq, String.reduceEq, eqFlat, tf, aOpI, frL_cons, List.drop_succ_cons, List.drop_zero]
      refine hK _ _ ?_
      clear hK
      rw [← hMM] at hi
      clear hRR hMM
      generalize rdQtM r = rm at *
      generalize ((r.takeR 1).takeR 1).takeV 1 = W at *
      refine AWp.weak (Wk.fr (l := [(1, .pointer (some ⟨S.length, 0, none⟩)), (2, .pointer (some ⟨S.length + 1, 0, none⟩)), (3, .nilIface), (4, .func (.func 60) #[] #[.pointer (some ⟨S.length, 0, none⟩)]), (5, .func (.func 61) #[] #[.pointer (some ⟨S.length, 0, none⟩)]), (6, .pointer (some ⟨o6, 0, none⟩)), (7, .int .i64 (N0 : Int)), (8, .int .i64 (N1 : Int)), (9, .int .i64 (N2 : Int)), (13, .int .i64 (i : Int)), (14, .pointer (some ⟨x, 0, none⟩)), (15, .int .i64 (W : Int))]) (by simp only [List.forall_mem_cons, vcT, wantedA, kp, kp2, kpS, kr, k1, k2, kL, kLP, kFn, kFn2, kSl, kSl2, kSl3, kC2, kP0, kP1, ev, evs, evParts, evO, Nat.reduceLT, Nat.reduceEqDiff, reduceIte, fr0, okConst, okc, appendA, cellsA, boxA, allocA, storeA, loadA, fieldA, indexA, fieldV, indexV, partA, extractA, nilA, binA, intBin, unA, lenA, isAggD, isConst, Nat.reduceAdd, Nat.reduceMul, Nat.reduceLeDiff, Nat.reduceSub, Nat.reduceBEq, splice, reduceCtorEq, Int.reduceEq, Int.reduceLT, Int.reduceLE, Int.reduceNeg, Int.reduceBEq, String.reduceEq, eqFlat, tf, aOpI, frL_cons]; simp)) ?_
      refine AWp.seqK fun K2 hK2 => ?_
      have hgo3 : ¬ (1 < W ∧ rm.err = none) → ∀ (fr : Fr), (∀ p ∈ ([(1, .pointer (some ⟨S.length, 0, none⟩)), (2, .pointer (some ⟨S.length + 1, 0, none⟩)), (3, .nilIface), (4, .func (.func 60) #[] #[.pointer (some ⟨S.length, 0, none⟩)]), (5, .func (.func 61) #[] #[.pointer (some ⟨S.length, 0, none⟩)]), (6, .pointer (some ⟨o6, 0, none⟩)), (7, .int .i64 (N0 : Int)), (8, .int .i64 (N1 : Int)), (9, .int .i64 (N2 : Int)), (13, .int .i64 (i : Int)), (14, .pointer (some ⟨x, 0, none⟩)), (15, .int .i64 (W : Int))] : List (Nat × Value)), fr p.1 = p.2) → K2 fr S4 := by
        intro hne fr hfr
        have hG' := hev' hne
        refine hK2 _ _ ?_
        clear hK2 hodd' hev' hne
        refine AWp.weak (Wk.fr hfr) ?_
        clear hfr fr
        have hw1 : ((W : Int) == 1) = decide (W = 1) := by
          by_cases hW : W = 1
          · subst hW; rfl
          · rw [decide_eq_false hW]
            simp
            omega
        generalize decide (W = 1) = wb at *
        refine AWp.seq_region tok fun K hK => ?_
        refine aList_cut 3 fun K1 hK1 => ?_
        simp -implicitDefEqProofs only [vcT, wantedA, kp, kp2, kpS, kr, k1, k2, kL, kLP, kFn, kFn2, kSl, kSl2, kSl3, kC2, kP0, kP1, ev, evs, evParts, evO, Nat.reduceLT, Nat.reduceEqDiff, reduceIte, fr0, okConst, okc, appendA, cellsA, boxA, allocA, storeA, loadA, fieldA, indexA, fieldV, indexV, partA, extractA, nilA, binA, intBin, unA, lenA, isAggD, isConst, Nat.reduceAdd, Nat.reduceMul, Nat.reduceLeDiff, Nat.reduceSub, Nat.reduceBEq, splice, reduceCtorEq, Int.reduceEq, Int.reduceLT, Int.reduceLE, Int.reduceNeg, Int.reduceBEq, String.reduceEq, eqFlat, tf, aOpI, frL_cons, List.drop_succ_cons, List.drop_zero, hw1]
        refine hK1 _ _ ?_
        clear hK1
        refine aList_cut 1 fun K1 hK1 => ?_
        simp -implicitDefEqProofs only [vcT, wantedA, kp, kp2, kpS, kr, k1, k2, kL, kLP, kFn, kFn2, kSl, kSl2, kSl3, kC2, kP0, kP1, ev, evs, evParts, evO, Nat.reduceLT, Nat.reduceEqDiff, reduceIte, fr0, okConst, okc, appendA, cellsA, boxA, allocA, storeA, loadA, fieldA, indexA, fieldV, indexV, partA, extractA, nilA, binA, intBin, unA, lenA, isAggD, isConst, Nat.reduceAdd, Nat.reduceMul, Nat.reduceLeDiff, Nat.reduceSub, Nat.reduceBEq, splice, reduceCtorEq, Int.reduceEq, Int.reduceLT, Int.reduceLE, Int.reduceNeg, Int.reduceBEq, String.reduceEq, eqFlat, tf, aOpI, Array.toList_empty, List.drop_succ_cons, List.drop_zero, frL_cons]
        refine (ctake1 hi.p.box hi.p.rd).mono ?_
        rintro z S4 ⟨rfl, hm, hr⟩
        replace ht := hm.get ht holx
        replace hi := hi.read hm hr
        clear hm hr
        refine hK1 _ _ ?_
        clear hK1
        refine aList_cut 1 fun K1 hK1 => ?_
        simp -implicitDefEqProofs only [vcT, wantedA, kp, kp2, kpS, kr, k1, k2, kL, kLP, kFn, kFn2, kSl, kSl2, kSl3, kC2, kP0, kP1, ev, evs, evParts, evO, Nat.reduceLT, Nat.reduceEqDiff, reduceIte, fr0, okConst, okc, appendA, cellsA, boxA, allocA, storeA, loadA, fieldA, indexA, fieldV, indexV, partA, extractA, nilA, binA, intBin, unA, lenA, isAggD, isConst, Nat.reduceAdd, Nat.reduceMul, Nat.reduceLeDiff, Nat.reduceSub, Nat.reduceBEq, splice, reduceCtorEq, Int.reduceEq, Int.reduceLT, Int.reduceLE, Int.reduceNeg, Int.reduceBEq, String.reduceEq, eqFlat, tf, aOpI, frL_cons, List.drop_succ_cons, List.drop_zero]
        refine hK1 _ _ ?_
        clear hK1
        refine aList_cut 1 fun K1 hK1 => ?_
        simp -implicitDefEqProofs only [vcT, wantedA, kp, kp2, kpS, kr, k1, k2, kL, kLP, kFn, kFn2, kSl, kSl2, kSl3, kC2, kP0, kP1, ev, evs, evParts, evO, Nat.reduceLT, Nat.reduceEqDiff, reduceIte, fr0, okConst, okc, appendA, cellsA, boxA, allocA, storeA, loadA, fieldA, indexA, fieldV, indexV, partA, extractA, nilA, binA, intBin, unA, lenA, isAggD, isConst, Nat.reduceAdd, Nat.reduceMul, Nat.reduceLeDiff, Nat.reduceSub, Nat.reduceBEq, splice, reduceCtorEq, Int.reduceEq, Int.reduceLT, Int.reduceLE, Int.reduceNeg, Int.reduceBEq, String.reduceEq, eqFlat, tf, aOpI, Array.toList_empty, List.drop_succ_cons, List.drop_zero, frL_cons]
        refine (ctake1 hi.p.box hi.p.rd).mono ?_
        rintro z S4 ⟨rfl, hm, hr⟩
        replace ht := hm.get ht holx
        replace hi := hi.read hm hr
        clear hm hr
        refine hK1 _ _ ?_
        clear hK1
        refine aList_cut 1 fun K1 hK1 => ?_
        simp -implicitDefEqProofs only [vcT, wantedA, kp, kp2, kpS, kr, k1, k2, kL, kLP, kFn, kFn2, kSl, kSl2, kSl3, kC2, kP0, kP1, ev, evs, evParts, evO, Nat.reduceLT, Nat.reduceEqDiff, reduceIte, fr0, okConst, okc, appendA, cellsA, boxA, allocA, storeA, loadA, fieldA, indexA, fieldV, indexV, partA, extractA, nilA, binA, intBin, unA, lenA, isAggD, isConst, Nat.reduceAdd, Nat.reduceMul, Nat.reduceLeDiff, Nat.reduceSub, Nat.reduceBEq, splice, reduceCtorEq, Int.reduceEq, Int.reduceLT, Int.reduceLE, Int.reduceNeg, Int.reduceBEq, String.reduceEq, eqFlat, tf, aOpI, frL_cons, List.drop_succ_cons, List.drop_zero]
        refine hK1 _ _ ?_
        clear hK1
        refine aList_cut 1 fun K1 hK1 => ?_
        simp -implicitDefEqProofs only [vcT, wantedA, kp, kp2, kpS, kr, k1, k2, kL, kLP, kFn, kFn2, kSl, kSl2, kSl3, kC2, kP0, kP1, ev, evs, evParts, evO, Nat.reduceLT, Nat.reduceEqDiff, reduceIte, fr0, okConst, okc, appendA, cellsA, boxA, allocA, storeA, loadA, fieldA, indexA, fieldV, indexV, partA, extractA, nilA, binA, intBin, unA, lenA, isAggD, isConst, Nat.reduceAdd, Nat.reduceMul, Nat.reduceLeDiff, Nat.reduceSub, Nat.reduceBEq, splice, reduceCtorEq, Int.reduceEq, Int.reduceLT, Int.reduceLE, Int.reduceNeg, Int.reduceBEq, String.reduceEq, eqFlat, tf, aOpI, Array.toList_empty, List.drop_succ_cons, List.drop_zero, frL_cons]
        refine (ctake1 hi.p.box hi.p.rd).mono ?_
        rintro z S4 ⟨rfl, hm, hr⟩
        replace ht := hm.get ht holx
        replace hi := hi.read hm hr
        clear hm hr
        refine hK1 _ _ ?_
        clear hK1
        refine aList_cut 2 fun K1 hK1 => ?_
        simp -implicitDefEqProofs only [vcT, wantedA, kp, kp2, kpS, kr, k1, k2, kL, kLP, kFn, kFn2, kSl, kSl2, kSl3, kC2, kP0, kP1, ev, evs, evParts, evO, Nat.reduceLT, Nat.reduceEqDiff, reduceIte, fr0, okConst, okc, appendA, cellsA, boxA, allocA, storeA, loadA, fieldA, indexA, fieldV, indexV, partA, extractA, nilA, binA, intBin, unA, lenA, isAggD, isConst, Nat.reduceAdd, Nat.reduceMul, Nat.reduceLeDiff, Nat.reduceSub, Nat.reduceBEq, splice, reduceCtorEq, Int.reduceEq, Int.reduceLT, Int.reduceLE, Int.reduceNeg, Int.reduceBEq, String.reduceEq, eqFlat, tf, aOpI, frL_cons, ht, ty111, ty4, ty3, List.drop_succ_cons, List.drop_zero]
        refine hK1 _ _ ?_
        clear hK1
        have hlx := (List.getElem?_eq_some_iff.1 ht).1
        replace hi := hi.setX ht hxlo (.inr rfl) hap haq (.row 111 true [.int .i64 ((r.takeV 1 : Nat) : Int), .int .u8 (((r.takeR 1).takeV 1 : Nat) : Int), .bool wb, .int .i64 0, .int .i64 0, .int .i64 0])
        replace ht : (S4.set x (.row 111 true [.int .i64 ((r.takeV 1 : Nat) : Int), .int .u8 (((r.takeR 1).takeV 1 : Nat) : Int), .bool wb, .int .i64 0, .int .i64 0, .int .i64 0]))[x]? = some (.row 111 true [.int .i64 ((r.takeV 1 : Nat) : Int), .int .u8 (((r.takeR 1).takeV 1 : Nat) : Int), .bool wb, .int .i64 0, .int .i64 0, .int .i64 0]) := List.getElem?_set_self hlx
        generalize hSS : (S4.set x (AObj.row 111 true [.int .i64 ((r.takeV 1 : Nat) : Int), .int .u8 (((r.takeR 1).takeV 1 : Nat) : Int), .bool wb, .int .i64 0, .int .i64 0, .int .i64 0])) = S4 at *
        clear hlx hSS
        refine aList_cut 2 fun K1 hK1 => ?_
        simp -implicitDefEqProofs only [vcT, wantedA, kp, kp2, kpS, kr, k1, k2, kL, kLP, kFn, kFn2, kSl, kSl2, kSl3, kC2, kP0, kP1, ev, evs, evParts, evO, Nat.reduceLT, Nat.reduceEqDiff, reduceIte, fr0, okConst, okc, appendA, cellsA, boxA, allocA, storeA, loadA, fieldA, indexA, fieldV, indexV, partA, extractA, nilA, binA, intBin, unA, lenA, isAggD, isConst, Nat.reduceAdd, Nat.reduceMul, Nat.reduceLeDiff, Nat.reduceSub, Nat.reduceBEq, splice, reduceCtorEq, Int.reduceEq, Int.reduceLT, Int.reduceLE, Int.reduceNeg, Int.reduceBEq, String.reduceEq, eqFlat, tf, aOpI, frL_cons, ht, ty111, ty4, ty3, List.drop_succ_cons, List.drop_zero]
        refine hK1 _ _ ?_
        clear hK1
        have hlx := (List.getElem?_eq_some_iff.1 ht).1
        replace hi := hi.setX ht hxlo (.inr rfl) hap haq (.row 111 true [.int .i64 ((r.takeV 1 : Nat) : Int), .int .u8 (((r.takeR 1).takeV 1 : Nat) : Int), .bool wb, .int .i64 ((rm.takeV 1 : Nat) : Int), .int .i64 0, .int .i64 0])
        replace ht : (S4.set x (.row 111 true [.int .i64 ((r.takeV 1 : Nat) : Int), .int .u8 (((r.takeR 1).takeV 1 : Nat) : Int), .bool wb, .int .i64 ((rm.takeV 1 : Nat) : Int), .int .i64 0, .int .i64 0]))[x]? = some (.row 111 true [.int .i64 ((r.takeV 1 : Nat) : Int), .int .u8 (((r.takeR 1).takeV 1 : Nat) : Int), .bool wb, .int .i64 ((rm.takeV 1 : Nat) : Int), .int .i64 0, .int .i64 0]) := List.getElem?_set_self hlx
        generalize hSS : (S4.set x (AObj.row 111 true [.int .i64 ((r.takeV 1 : Nat) : Int), .int .u8 (((r.takeR 1).takeV 1 : Nat) : Int), .bool wb, .int .i64 ((rm.takeV 1 : Nat) : Int), .int .i64 0, .int .i64 0])) = S4 at *
        clear hlx hSS
        refine aList_cut 2 fun K1 hK1 => ?_
        simp -implicitDefEqProofs only [vcT, wantedA, kp, kp2, kpS, kr, k1, k2, kL, kLP, kFn, kFn2, kSl, kSl2, kSl3, kC2, kP0, kP1, ev, evs, evParts, evO, Nat.reduceLT, Nat.reduceEqDiff, reduceIte, fr0, okConst, okc, appendA, cellsA, boxA, allocA, storeA, loadA, fieldA, indexA, fieldV, indexV, partA, extractA, nilA, binA, intBin, unA, lenA, isAggD, isConst, Nat.reduceAdd, Nat.reduceMul, Nat.reduceLeDiff, Nat.reduceSub, Nat.reduceBEq, splice, reduceCtorEq, Int.reduceEq, Int.reduceLT, Int.reduceLE, Int.reduceNeg, Int.reduceBEq, String.reduceEq, eqFlat, tf, aOpI, frL_cons, ht, ty111, ty4, ty3, List.drop_succ_cons, List.drop_zero]
        refine hK1 _ _ ?_
        clear hK1
        have hlx := (List.getElem?_eq_some_iff.1 ht).1
        replace hi := hi.setX ht hxlo (.inr rfl) hap haq (.row 111 true [.int .i64 ((r.takeV 1 : Nat) : Int), .int .u8 (((r.takeR 1).takeV 1 : Nat) : Int), .bool wb, .int .i64 ((rm.takeV 1 : Nat) : Int), .int .i64 (((rm.takeR 1).takeV 1 : Nat) : Int), .int .i64 0])
        replace ht : (S4.set x (.row 111 true [.int .i64 ((r.takeV 1 : Nat) : Int), .int .u8 (((r.takeR 1).takeV 1 : Nat) : Int), .bool wb, .int .i64 ((rm.takeV 1 : Nat) : Int), .int .i64 (((rm.takeR 1).takeV 1 : Nat) : Int), .int .i64 0]))[x]? = some (.row 111 true [.int .i64 ((r.takeV 1 : Nat) : Int), .int .u8 (((r.takeR 1).takeV 1 : Nat) : Int), .bool wb, .int .i64 ((rm.takeV 1 : Nat) : Int), .int .i64 (((rm.takeR 1).takeV 1 : Nat) : Int), .int .i64 0]) := List.getElem?_set_self hlx
        generalize hSS : (S4.set x (AObj.row 111 true [.int .i64 ((r.takeV 1 : Nat) : Int), .int .u8 (((r.takeR 1).takeV 1 : Nat) : Int), .bool wb, .int .i64 ((rm.takeV 1 : Nat) : Int), .int .i64 (((rm.takeR 1).takeV 1 : Nat) : Int), .int .i64 0])) = S4 at *
        clear hlx hSS
        refine aList_cut 2 fun K1 hK1 => ?_
        simp -implicitDefEqProofs only [vcT, wantedA, kp, kp2, kpS, kr, k1, k2, kL, kLP, kFn, kFn2, kSl, kSl2, kSl3, kC2, kP0, kP1, ev, evs, evParts, evO, Nat.reduceLT, Nat.reduceEqDiff, reduceIte, fr0, okConst, okc, appendA, cellsA, boxA, allocA, storeA, loadA, fieldA, indexA, fieldV, indexV, partA, extractA, nilA, binA, intBin, unA, lenA, isAggD, isConst, Nat.reduceAdd, Nat.reduceMul, Nat.reduceLeDiff, Nat.reduceSub, Nat.reduceBEq, splice, reduceCtorEq, Int.reduceEq, Int.reduceLT, Int.reduceLE, Int.reduceNeg, Int.reduceBEq, String.reduceEq, eqFlat, tf, aOpI, frL_cons, ht, ty111, ty4, ty3, List.drop_succ_cons, List.drop_zero]
        refine hK1 _ _ ?_
        clear hK1
        have hlx := (List.getElem?_eq_some_iff.1 ht).1
        replace hi := hi.setX ht hxlo (.inr rfl) hap haq (.row 111 true [.int .i64 ((r.takeV 1 : Nat) : Int), .int .u8 (((r.takeR 1).takeV 1 : Nat) : Int), .bool wb, .int .i64 ((rm.takeV 1 : Nat) : Int), .int .i64 (((rm.takeR 1).takeV 1 : Nat) : Int), .int .i64 ((((rm.takeR 1).takeR 1).takeV 1 : Nat) : Int)])
        replace ht : (S4.set x (.row 111 true [.int .i64 ((r.takeV 1 : Nat) : Int), .int .u8 (((r.takeR 1).takeV 1 : Nat) : Int), .bool wb, .int .i64 ((rm.takeV 1 : Nat) : Int), .int .i64 (((rm.takeR 1).takeV 1 : Nat) : Int), .int .i64 ((((rm.takeR 1).takeR 1).takeV 1 : Nat) : Int)]))[x]? = some (.row 111 true [.int .i64 ((r.takeV 1 : Nat) : Int), .int .u8 (((r.takeR 1).takeV 1 : Nat) : Int), .bool wb, .int .i64 ((rm.takeV 1 : Nat) : Int), .int .i64 (((rm.takeR 1).takeV 1 : Nat) : Int), .int .i64 ((((rm.takeR 1).takeR 1).takeV 1 : Nat) : Int)]) := List.getElem?_set_self hlx
        generalize hSS : (S4.set x (AObj.row 111 true [.int .i64 ((r.takeV 1 : Nat) : Int), .int .u8 (((r.takeR 1).takeV 1 : Nat) : Int), .bool wb, .int .i64 ((rm.takeV 1 : Nat) : Int), .int .i64 (((rm.takeR 1).takeV 1 : Nat) : Int), .int .i64 ((((rm.takeR 1).takeR 1).takeV 1 : Nat) : Int)])) = S4 at *
        clear hlx hSS
        simp -implicitDefEqProofs only [vcT, wantedA, kp, kp2, kpS, kr, k1, k2, kL, kLP, kFn, kFn2, kSl, kSl2, kSl3, kC2, kP0, kP1, ev, evs, evParts, evO, Nat.reduceLT, Nat.reduceEqDiff, reduceIte, fr0, okConst, okc, appendA, cellsA, boxA, allocA, storeA, loadA, fieldA, indexA, fieldV, indexV, partA, extractA, nilA, binA, intBin, unA, lenA, isAggD, isConst, Nat.reduceAdd, Nat.reduceMul, Nat.reduceLeDiff, Nat.reduceSub, Nat.reduceBEq, splice, reduceCtorEq, Int.reduceEq, Int.reduceLT, Int.reduceLE, Int.reduceNeg, Int.reduceBEq, String.reduceEq, eqFlat, tf, aOpI, List.drop_succ_cons, List.drop_zero]
        refine hK _ _ ?_
        clear hK
        rw [hfinQ] at ht
        clear hfinQ
        obtain ⟨u, S6, a1, a2, a3, a4, hi6⟩ := hi.addQt (m := rdQt r) (by dsimp only; omega)
        generalize rdQt r = p at *
        have hset : (cfC { c1 with qs := qs } vp vq nilS).set 9 u = cfC { c1 with qs := qs ++ [p] } vp u nilS := rfl
        have hfr := hi.fr
        have hfrR := at_old hfr [.row 111 true p.cells]
        have htR := at_old ht [.row 111 true p.cells]
        have hbs := bs53_1 p
        simp only [Qt.val] at hbs
        have f9c : (cfC { c1 with qs := qs } vp vq nilS)[9]? = some vq := rfl
        have htk : List.take 6 p.cells = [.int .i64 p.part, .int .u8 p.kind, .bool p.out, .int .i64 p.size, .int .i64 p.depth, .int .i64 p.fresh] := rfl
        have htl : p.cells.length = 6 := rfl
        refine AWp.regionK tok fun K hK => ?_
        simp -implicitDefEqProofs only [vcT, wantedA, kp, kp2, kpS, kr, k1, k2, kL, kLP, kFn, kFn2, kSl, kSl2, kSl3, kC2, kP0, kP1, ev, evs, evParts, evO, Nat.reduceLT, Nat.reduceEqDiff, reduceIte, fr0, okConst, okc, cellsA, boxA, allocA, storeA, loadA, fieldA, indexA, fieldV, indexV, partA, extractA, nilA, binA, intBin, unA, lenA, isAggD, isConst, Nat.reduceAdd, Nat.reduceMul, Nat.reduceLeDiff, Nat.reduceSub, Nat.reduceBEq, splice, reduceCtorEq, Int.reduceEq, Int.reduceLT, Int.reduceLE, Int.reduceNeg, Int.reduceBEq, String.reduceEq, eqFlat, tf, aOpI, frL_cons, ht, hfr, hfrR, htR, f9c, htk, htl, hbs, a1, a2, a3, a4, ty56, ty53, ty111, cfC_len, hset]
        refine hK _ _ ?_
        refine hK1 _ _ ?_
        clear hK1
        refine AWp.regionK tok fun K hK => ?_
        simp -implicitDefEqProofs only [vcT, wantedA, kp, kp2, kpS, kr, k1, k2, kL, kLP, kFn, kFn2, kSl, kSl2, kSl3, kC2, kP0, kP1, ev, evs, evParts, evO, Nat.reduceLT, Nat.reduceEqDiff, reduceIte, fr0, okConst, okc, appendA, cellsA, boxA, allocA, storeA, loadA, fieldA, indexA, fieldV, indexV, partA, extractA, nilA, binA, intBin, unA, lenA, isAggD, isConst, Nat.reduceAdd, Nat.reduceMul, Nat.reduceLeDiff, Nat.reduceSub, Nat.reduceBEq, splice, reduceCtorEq, Int.reduceEq, Int.reduceLT, Int.reduceLE, Int.reduceNeg, Int.reduceBEq, String.reduceEq, eqFlat, tf, aOpI, frL_cons, w0]
        refine hK _ _ ?_
        clear hK
        exact ⟨q, _, _, by omega, Wk.frame (by simp only [List.forall_mem_cons, vcT, wantedA, kp, kp2, kpS, kr, k1, k2, kL, kLP, kFn, kFn2, kSl, kSl2, kSl3, kC2, kP0, kP1, ev, evs, evParts, evO, Nat.reduceLT, Nat.reduceEqDiff, reduceIte, fr0, okConst, okc, appendA, cellsA, boxA, allocA, storeA, loadA, fieldA, indexA, fieldV, indexV, partA, extractA, nilA, binA, intBin, unA, lenA, isAggD, isConst, Nat.reduceAdd, Nat.reduceMul, Nat.reduceLeDiff, Nat.reduceSub, Nat.reduceBEq, splice, reduceCtorEq, Int.reduceEq, Int.reduceLT, Int.reduceLE, Int.reduceNeg, Int.reduceBEq, String.reduceEq, eqFlat, tf, aOpI, frL_cons]; simp), _, _, u, i + 1, by omega, hG', by simp; omega, hi6, rfl⟩
      clear hK2
      rcases Nat.lt_or_ge 1 W with hW | hW
      rotate_left
      · have g1 : ¬ ((W : Int) > 1) := by omega
        refine AWp.seq_region tok fun K hK => ?_
        simp -implicitDefEqProofs only [vcT, wantedA, kp, kp2, kpS, kr, k1, k2, kL, kLP, kFn, kFn2, kSl, kSl2, kSl3, kC2, kP0, kP1, ev, evs, evParts, evO, Nat.reduceLT, Nat.reduceEqDiff, reduceIte, fr0, okConst, okc, appendA, cellsA, boxA, allocA, storeA, loadA, fieldA, indexA, fieldV, indexV, partA, extractA, nilA, binA, intBin, unA, lenA, isAggD, isConst, Nat.reduceAdd, Nat.reduceMul, Nat.reduceLeDiff, Nat.reduceSub, Nat.reduceBEq, splice, reduceCtorEq, Int.reduceEq, Int.reduceLT, Int.reduceLE, Int.reduceNeg, Int.reduceBEq, String.reduceEq, eqFlat, tf, aOpI, frL_cons, g1]
        refine hK _ _ ?_
        clear hK
        refine AWp.condF (by simp -implicitDefEqProofs only [vcT, wantedA, kp, kp2, kpS, kr, k1, k2, kL, kLP, kFn, kFn2, kSl, kSl2, kSl3, kC2, kP0, kP1, ev, evs, evParts, evO, Nat.reduceLT, Nat.reduceEqDiff, reduceIte, fr0, okConst, okc, appendA, cellsA, boxA, allocA, storeA, loadA, fieldA, indexA, fieldV, indexV, partA, extractA, nilA, binA, intBin, unA, lenA, isAggD, isConst, Nat.reduceAdd, Nat.reduceMul, Nat.reduceLeDiff, Nat.reduceSub, Nat.reduceBEq, splice, reduceCtorEq, Int.reduceEq, Int.reduceLT, Int.reduceLE, Int.reduceNeg, Int.reduceBEq, String.reduceEq, eqFlat, tf, aOpI]) ?_
        exact AWp.skip (hgo3 (by omega) _ (by simp only [List.forall_mem_cons, vcT, wantedA, kp, kp2, kpS, kr, k1, k2, kL, kLP, kFn, kFn2, kSl, kSl2, kSl3, kC2, kP0, kP1, ev, evs, evParts, evO, Nat.reduceLT, Nat.reduceEqDiff, reduceIte, fr0, okConst, okc, appendA, cellsA, boxA, allocA, storeA, loadA, fieldA, indexA, fieldV, indexV, partA, extractA, nilA, binA, intBin, unA, lenA, isAggD, isConst, Nat.reduceAdd, Nat.reduceMul, Nat.reduceLeDiff, Nat.reduceSub, Nat.reduceBEq, splice, reduceCtorEq, Int.reduceEq, Int.reduceLT, Int.reduceLE, Int.reduceNeg, Int.reduceBEq, String.reduceEq, eqFlat, tf, aOpI, frL_cons]; simp))
      have g1 : (W : Int) > 1 := by omega
      refine AWp.seq_region tok fun K hK => ?_
      refine aList_cut 4 fun K1 hK1 => ?_
      simp -implicitDefEqProofs only [vcT, wantedA, kp, kp2, kpS, kr, k1, k2, kL, kLP, kFn, kFn2, kSl, kSl2, kSl3, kC2, kP0, kP1, ev, evs, evParts, evO, Nat.reduceLT, Nat.reduceEqDiff, reduceIte, fr0, okConst, okc, appendA, cellsA, boxA, allocA, storeA, loadA, fieldA, indexA, fieldV, indexV, partA, extractA, nilA, binA, intBin, unA, lenA, isAggD, isConst, Nat.reduceAdd, Nat.reduceMul, Nat.reduceLeDiff, Nat.reduceSub, Nat.reduceBEq, splice, reduceCtorEq, Int.reduceEq, Int.reduceLT, Int.reduceLE, Int.reduceNeg, Int.reduceBEq, String.reduceEq, eqFlat, tf, aOpI, frL_cons, g1, hi.p.box, ty71]
      refine hK1 _ _ ?_
      clear hK1
      refine aList_cut 1 fun K1 hK1 => ?_
      simp -implicitDefEqProofs only [vcT, wantedA, kp, kp2, kpS, kr, k1, k2, kL, kLP, kFn, kFn2, kSl, kSl2, kSl3, kC2, kP0, kP1, ev, evs, evParts, evO, Nat.reduceLT, Nat.reduceEqDiff, reduceIte, fr0, okConst, okc, appendA, cellsA, boxA, allocA, storeA, loadA, fieldA, indexA, fieldV, indexV, partA, extractA, nilA, binA, intBin, unA, lenA, isAggD, isConst, Nat.reduceAdd, Nat.reduceMul, Nat.reduceLeDiff, Nat.reduceSub, Nat.reduceBEq, splice, reduceCtorEq, Int.reduceEq, Int.reduceLT, Int.reduceLE, Int.reduceNeg, Int.reduceBEq, String.reduceEq, eqFlat, tf, aOpI, Array.toList_empty, List.drop_succ_cons, List.drop_zero, frL_cons]
      refine (rerr hi.p.rd).mono ?_
      rintro z S6 ⟨rfl, hx⟩
      refine hK1 _ _ ?_
      clear hK1
      rcases hx with ⟨he2, rfl⟩ | ⟨he2, t, v, rfl⟩
      rotate_left
      · simp -implicitDefEqProofs only [vcT, wantedA, kp, kp2, kpS, kr, k1, k2, kL, kLP, kFn, kFn2, kSl, kSl2, kSl3, kC2, kP0, kP1, ev, evs, evParts, evO, Nat.reduceLT, Nat.reduceEqDiff, reduceIte, fr0, okConst, okc, appendA, cellsA, boxA, allocA, storeA, loadA, fieldA, indexA, fieldV, indexV, partA, extractA, nilA, binA, intBin, unA, lenA, isAggD, isConst, Nat.reduceAdd, Nat.reduceMul, Nat.reduceLeDiff, Nat.reduceSub, Nat.reduceBEq, splice, reduceCtorEq, Int.reduceEq, Int.reduceLT, Int.reduceLE, Int.reduceNeg, Int.reduceBEq, String.reduceEq, eqFlat, tf, aOpI, frL_cons, ty36, isIfaceD, List.drop_succ_cons, List.drop_zero]
        refine hK _ _ ?_
        clear hK
        refine AWp.condF (by simp -implicitDefEqProofs only [vcT, wantedA, kp, kp2, kpS, kr, k1, k2, kL, kLP, kFn, kFn2, kSl, kSl2, kSl3, kC2, kP0, kP1, ev, evs, evParts, evO, Nat.reduceLT, Nat.reduceEqDiff, reduceIte, fr0, okConst, okc, appendA, cellsA, boxA, allocA, storeA, loadA, fieldA, indexA, fieldV, indexV, partA, extractA, nilA, binA, intBin, unA, lenA, isAggD, isConst, Nat.reduceAdd, Nat.reduceMul, Nat.reduceLeDiff, Nat.reduceSub, Nat.reduceBEq, splice, reduceCtorEq, Int.reduceEq, Int.reduceLT, Int.reduceLE, Int.reduceNeg, Int.reduceBEq, String.reduceEq, eqFlat, tf, aOpI]) ?_
        exact AWp.skip (hgo3 (fun h => he2 h.2) _ (by simp only [List.forall_mem_cons, vcT, wantedA, kp, kp2, kpS, kr, k1, k2, kL, kLP, kFn, kFn2, kSl, kSl2, kSl3, kC2, kP0, kP1, ev, evs, evParts, evO, Nat.reduceLT, Nat.reduceEqDiff, reduceIte, fr0, okConst, okc, appendA, cellsA, boxA, allocA, storeA, loadA, fieldA, indexA, fieldV, indexV, partA, extractA, nilA, binA, intBin, unA, lenA, isAggD, isConst, Nat.reduceAdd, Nat.reduceMul, Nat.reduceLeDiff, Nat.reduceSub, Nat.reduceBEq, splice, reduceCtorEq, Int.reduceEq, Int.reduceLT, Int.reduceLE, Int.reduceNeg, Int.reduceBEq, String.reduceEq, eqFlat, tf, aOpI, frL_cons]; simp))
      simp -implicitDefEqProofs only [vcT, wantedA, kp, kp2, kpS, kr, k1, k2, kL, kLP, kFn, kFn2, kSl, kSl2, kSl3, kC2, kP0, kP1, ev, evs, evParts, evO, Nat.reduceLT, Nat.reduceEqDiff, reduceIte, fr0, okConst, okc, appendA, cellsA, boxA, allocA, storeA, loadA, fieldA, indexA, fieldV, indexV, partA, extractA, nilA, binA, intBin, unA, lenA, isAggD, isConst, Nat.reduceAdd, Nat.reduceMul, Nat.reduceLeDiff, Nat.reduceSub, Nat.reduceBEq, splice, reduceCtorEq, Int.reduceEq, Int.reduceLT, Int.reduceLE, Int.reduceNeg, Int.reduceBEq, String.reduceEq, eqFlat, tf, aOpI, frL_cons, ty36, isIfaceD, List.drop_succ_cons, List.drop_zero]
      refine hK _ _ ?_
      clear hK
      refine AWp.condT (by simp -implicitDefEqProofs only [vcT, wantedA, kp, kp2, kpS, kr, k1, k2, kL, kLP, kFn, kFn2, kSl, kSl2, kSl3, kC2, kP0, kP1, ev, evs, evParts, evO, Nat.reduceLT, Nat.reduceEqDiff, reduceIte, fr0, okConst, okc, appendA, cellsA, boxA, allocA, storeA, loadA, fieldA, indexA, fieldV, indexV, partA, extractA, nilA, binA, intBin, unA, lenA, isAggD, isConst, Nat.reduceAdd, Nat.reduceMul, Nat.reduceLeDiff, Nat.reduceSub, Nat.reduceBEq, splice, reduceCtorEq, Int.reduceEq, Int.reduceLT, Int.reduceLE, Int.reduceNeg, Int.reduceBEq, String.reduceEq, eqFlat, tf, aOpI]) ?_
      have hT2 := hodd' ⟨hW, he2⟩
      rw [hT2] at hPd1
      subst hPd1
      dsimp only
      refine AWp.seq_region tok fun K hK => ?_
      refine aList_cut 2 fun K1 hK1 => ?_
      simp -implicitDefEqProofs only [vcT, wantedA, kp, kp2, kpS, kr, k1, k2, kL, kLP, kFn, kFn2, kSl, kSl2, kSl3, kC2, kP0, kP1, ev, evs, evParts, evO, Nat.reduceLT, Nat.reduceEqDiff, reduceIte, fr0, okConst, okc, appendA, cellsA, boxA, allocA, storeA, loadA, fieldA, indexA, fieldV, indexV, partA, extractA, nilA, binA, intBin, unA, lenA, isAggD, isConst, Nat.reduceAdd, Nat.reduceMul, Nat.reduceLeDiff, Nat.reduceSub, Nat.reduceBEq, splice, reduceCtorEq, Int.reduceEq, Int.reduceLT, Int.reduceLE, Int.reduceNeg, Int.reduceBEq, String.reduceEq, eqFlat, tf, aOpI, frL_cons, bd56_0]
      refine hK1 _ _ ?_
      clear hK1
      refine aList_cut 1 fun K1 hK1 => ?_
      simp -implicitDefEqProofs only [vcT, wantedA, kp, kp2, kpS, kr, k1, k2, kL, kLP, kFn, kFn2, kSl, kSl2, kSl3, kC2, kP0, kP1, ev, evs, evParts, evO, Nat.reduceLT, Nat.reduceEqDiff, reduceIte, fr0, okConst, okc, appendA, cellsA, boxA, allocA, storeA, loadA, fieldA, indexA, fieldV, indexV, partA, extractA, nilA, binA, intBin, unA, lenA, isAggD, isConst, Nat.reduceAdd, Nat.reduceMul, Nat.reduceLeDiff, Nat.reduceSub, Nat.reduceBEq, splice, reduceCtorEq, Int.reduceEq, Int.reduceLT, Int.reduceLE, Int.reduceNeg, Int.reduceBEq, String.reduceEq, eqFlat, tf, aOpI, Array.toList_empty, List.drop_succ_cons, List.drop_zero, frL_cons]
      refine (call28 8 (i : Int) (by decide) _).mono ?_
      rintro z S7 ⟨rfl, rfl⟩
      refine hK1 _ _ ?_
      clear hK1
      have hpre := hi.p.more [.row 96 true [.int .i64 8, .int .i64 (topM (i : Int)), .nilIface]]
      have hres := hpre.res
      have hfin := hpre.fin (.row 56 true (cfC zT nilS nilS nilS))
      have hl5 := (List.getElem?_eq_some_iff.1 hres).1
      have hr3 : ∀ x, ((S6 ++ [AObj.row 96 true [.int .i64 8, .int .i64 (topM (i : Int)), .nilIface]]).set (S.length + 1) x)[S.length + 1]? = some x := fun x => List.getElem?_set_self hl5
      have hne6 : S6.length ≠ S.length + 1 := by have := (List.getElem?_eq_some_iff.1 hi.p.res).1; omega
      simp only [cfC, nilS] at hres hfin
      simp only [cfV, nilS]
      simp -implicitDefEqProofs only [vcT, wantedA, kp, kp2, kpS, kr, k1, k2, kL, kLP, kFn, kFn2, kSl, kSl2, kSl3, kC2, kP0, kP1, ev, evs, evParts, evO, Nat.reduceLT, Nat.reduceEqDiff, reduceIte, fr0, okConst, okc, appendA, cellsA, boxA, allocA, storeA, loadA, fieldA, indexA, fieldV, indexV, partA, extractA, nilA, binA, intBin, unA, lenA, isAggD, isConst, Nat.reduceAdd, Nat.reduceMul, Nat.reduceLeDiff, Nat.reduceSub, Nat.reduceBEq, splice, reduceCtorEq, Int.reduceEq, Int.reduceLT, Int.reduceLE, Int.reduceNeg, Int.reduceBEq, String.reduceEq, eqFlat, tf, aOpI, frL_cons, hres, ty56, List.drop_succ_cons, List.drop_zero]
      refine hK _ _ ?_
      clear hK
      refine AWp.ret ?_
      simp -implicitDefEqProofs only [vcT, wantedA, kp, kp2, kpS, kr, k1, k2, kL, kLP, kFn, kFn2, kSl, kSl2, kSl3, kC2, kP0, kP1, ev, evs, evParts, evO, Nat.reduceLT, Nat.reduceEqDiff, reduceIte, fr0, okConst, okc, appendA, cellsA, boxA, allocA, storeA, loadA, fieldA, indexA, fieldV, indexV, partA, extractA, nilA, binA, intBin, unA, lenA, isAggD, isConst, Nat.reduceAdd, Nat.reduceMul, Nat.reduceLeDiff, Nat.reduceSub, Nat.reduceBEq, splice, reduceCtorEq, Int.reduceEq, Int.reduceLT, Int.reduceLE, Int.reduceNeg, Int.reduceBEq, String.reduceEq, eqFlat, tf, aOpI, ThenA, BlockA, EndA, ressA, resA, wrapA, frL_cons, hr3, ty56]
      refine ⟨hfin.1, hfin.2, _, _, _, _, rfl, zT_at _, S6.length, .nilIface, rfl, ?_, rfl⟩
      rw [List.getElem?_set_ne (Ne.symm hne6)]
      simp [topM_nat]
    clear hK0
    refine AWp.loopW (fun q fr S2 => ∃ (r : Rd) (ps : List Pt) (vp : Value) (i : Nat), q + i = N0 ∧ rdPs q r ps = rdPs N0 r2 [] ∧ ps.length + q ≤ 255 ∧ TdI S S2 o r o6 { c0 with ps := ps } vp nilS nilS ∧ fr = frL [(1, .pointer (some ⟨S.length, 0, none⟩)), (2, .pointer (some ⟨S.length + 1, 0, none⟩)), (3, .nilIface), (4, .func (.func 60) #[] #[.pointer (some ⟨S.length, 0, none⟩)]), (5, .func (.func 61) #[] #[.pointer (some ⟨S.length, 0, none⟩)]), (6, .pointer (some ⟨o6, 0, none⟩)), (7, .int .i64 (N0 : Int)), (8, .int .i64 (N1 : Int)), (9, .int .i64 (N2 : Int)), (10, .int .i64 (i : Int))]) N0
      ⟨_, _, Wk.frame ?_, r2, [], nilS, 0, rfl, rfl, by simp; omega, by rw [← hc0p]; exact hi, rfl⟩ ?_
    · simp only [List.forall_mem_cons, vcT, wantedA, kp, kp2, kpS, kr, k1, k2, kL, kLP, kFn, kFn2, kSl, kSl2, kSl3, kC2, kP0, kP1, ev, evs, evParts, evO, Nat.reduceLT, Nat.reduceEqDiff, reduceIte, fr0, okConst, okc, appendA, cellsA, boxA, allocA, storeA, loadA, fieldA, indexA, fieldV, indexV, partA, extractA, nilA, binA, intBin, unA, lenA, isAggD, isConst, Nat.reduceAdd, Nat.reduceMul, Nat.reduceLeDiff, Nat.reduceSub, Nat.reduceBEq, splice, reduceCtorEq, Int.reduceEq, Int.reduceLT, Int.reduceLE, Int.reduceNeg, Int.reduceBEq, String.reduceEq, eqFlat, tf, aOpI, frL_cons]
      simp
    clear hi
    rintro q fr S2 ⟨r, ps, vp, i, hqi, hG, hql, hi, rfl⟩
    refine AWp.seqK fun K1 hK1 => ?_
    rcases Nat.eq_zero_or_pos q with rfl | hq0
    · have g0 : ¬ ((i : Int) < (N0 : Int)) := by omega
      refine AWp.seq_region tok fun K hK => ?_
      simp -implicitDefEqProofs only [vcT, wantedA, kp, kp2, kpS, kr, k1, k2, kL, kLP, kFn, kFn2, kSl, kSl2, kSl3, kC2, kP0, kP1, ev, evs, evParts, evO, Nat.reduceLT, Nat.reduceEqDiff, reduceIte, fr0, okConst, okc, appendA, cellsA, boxA, allocA, storeA, loadA, fieldA, indexA, fieldV, indexV, partA, extractA, nilA, binA, intBin, unA, lenA, isAggD, isConst, Nat.reduceAdd, Nat.reduceMul, Nat.reduceLeDiff, Nat.reduceSub, Nat.reduceBEq, splice, reduceCtorEq, Int.reduceEq, Int.reduceLT, Int.reduceLE, Int.reduceNeg, Int.reduceBEq, String.reduceEq, eqFlat, tf, aOpI, frL_cons, g0]
      refine hK _ _ ?_
      clear hK
      refine AWp.condF (by simp -implicitDefEqProofs only [vcT, wantedA, kp, kp2, kpS, kr, k1, k2, kL, kLP, kFn, kFn2, kSl, kSl2, kSl3, kC2, kP0, kP1, ev, evs, evParts, evO, Nat.reduceLT, Nat.reduceEqDiff, reduceIte, fr0, okConst, okc, appendA, cellsA, boxA, allocA, storeA, loadA, fieldA, indexA, fieldV, indexV, partA, extractA, nilA, binA, intBin, unA, lenA, isAggD, isConst, Nat.reduceAdd, Nat.reduceMul, Nat.reduceLeDiff, Nat.reduceSub, Nat.reduceBEq, splice, reduceCtorEq, Int.reduceEq, Int.reduceLT, Int.reduceLE, Int.reduceNeg, Int.reduceBEq, String.reduceEq, eqFlat, tf, aOpI]) ?_
      refine AWp.exit ?_
      simp only [ThenA, BlockA, if_true]
      exact hgo _ _ _ _ _ hi hG (by omega) (by simp only [List.forall_mem_cons, vcT, wantedA, kp, kp2, kpS, kr, k1, k2, kL, kLP, kFn, kFn2, kSl, kSl2, kSl3, kC2, kP0, kP1, ev, evs, evParts, evO, Nat.reduceLT, Nat.reduceEqDiff, reduceIte, fr0, okConst, okc, appendA, cellsA, boxA, allocA, storeA, loadA, fieldA, indexA, fieldV, indexV, partA, extractA, nilA, binA, intBin, unA, lenA, isAggD, isConst, Nat.reduceAdd, Nat.reduceMul, Nat.reduceLeDiff, Nat.reduceSub, Nat.reduceBEq, splice, reduceCtorEq, Int.reduceEq, Int.reduceLT, Int.reduceLE, Int.reduceNeg, Int.reduceBEq, String.reduceEq, eqFlat, tf, aOpI, frL_cons]; simp)
    have g0 : (i : Int) < (N0 : Int) := by omega
    refine AWp.seq_region tok fun K hK => ?_
    refine aList_cut 5 fun K1 hK1 => ?_
    simp -implicitDefEqProofs only [vcT, wantedA, kp, kp2, kpS, kr, k1, k2, kL, kLP, kFn, kFn2, kSl, kSl2, kSl3, kC2, kP0, kP1, ev, evs, evParts, evO, Nat.reduceLT, Nat.reduceEqDiff, reduceIte, fr0, okConst, okc, appendA, cellsA, boxA, allocA, storeA, loadA, fieldA, indexA, fieldV, indexV, partA, extractA, nilA, binA, intBin, unA, lenA, isAggD, isConst, Nat.reduceAdd, Nat.reduceMul, Nat.reduceLeDiff, Nat.reduceSub, Nat.reduceBEq, splice, reduceCtorEq, Int.reduceEq, Int.reduceLT, Int.reduceLE, Int.reduceNeg, Int.reduceBEq, String.reduceEq, eqFlat, tf, aOpI, frL_cons, g0, hi.p.box, ty71]
    refine hK1 _ _ ?_
    clear hK1
    refine aList_cut 1 fun K1 hK1 => ?_
    simp -implicitDefEqProofs only [vcT, wantedA, kp, kp2, kpS, kr, k1, k2, kL, kLP, kFn, kFn2, kSl, kSl2, kSl3, kC2, kP0, kP1, ev, evs, evParts, evO, Nat.reduceLT, Nat.reduceEqDiff, reduceIte, fr0, okConst, okc, appendA, cellsA, boxA, allocA, storeA, loadA, fieldA, indexA, fieldV, indexV, partA, extractA, nilA, binA, intBin, unA, lenA, isAggD, isConst, Nat.reduceAdd, Nat.reduceMul, Nat.reduceLeDiff, Nat.reduceSub, Nat.reduceBEq, splice, reduceCtorEq, Int.reduceEq, Int.reduceLT, Int.reduceLE, Int.reduceNeg, Int.reduceBEq, String.reduceEq, eqFlat, tf, aOpI, Array.toList_empty, List.drop_succ_cons, List.drop_zero, frL_cons]
    refine (rerr hi.p.rd).mono ?_
    rintro z S3 ⟨rfl, hx⟩
    refine hK1 _ _ ?_
    clear hK1
    rcases hx with ⟨he, rfl⟩ | ⟨he, t, v, rfl⟩
    rotate_left
    · simp -implicitDefEqProofs only [vcT, wantedA, kp, kp2, kpS, kr, k1, k2, kL, kLP, kFn, kFn2, kSl, kSl2, kSl3, kC2, kP0, kP1, ev, evs, evParts, evO, Nat.reduceLT, Nat.reduceEqDiff, reduceIte, fr0, okConst, okc, appendA, cellsA, boxA, allocA, storeA, loadA, fieldA, indexA, fieldV, indexV, partA, extractA, nilA, binA, intBin, unA, lenA, isAggD, isConst, Nat.reduceAdd, Nat.reduceMul, Nat.reduceLeDiff, Nat.reduceSub, Nat.reduceBEq, splice, reduceCtorEq, Int.reduceEq, Int.reduceLT, Int.reduceLE, Int.reduceNeg, Int.reduceBEq, String.reduceEq, eqFlat, tf, aOpI, frL_cons, ty36, isIfaceD, List.drop_succ_cons, List.drop_zero]
      refine hK _ _ ?_
      clear hK
      refine AWp.condF (by simp -implicitDefEqProofs only [vcT, wantedA, kp, kp2, kpS, kr, k1, k2, kL, kLP, kFn, kFn2, kSl, kSl2, kSl3, kC2, kP0, kP1, ev, evs, evParts, evO, Nat.reduceLT, Nat.reduceEqDiff, reduceIte, fr0, okConst, okc, appendA, cellsA, boxA, allocA, storeA, loadA, fieldA, indexA, fieldV, indexV, partA, extractA, nilA, binA, intBin, unA, lenA, isAggD, isConst, Nat.reduceAdd, Nat.reduceMul, Nat.reduceLeDiff, Nat.reduceSub, Nat.reduceBEq, splice, reduceCtorEq, Int.reduceEq, Int.reduceLT, Int.reduceLE, Int.reduceNeg, Int.reduceBEq, String.reduceEq, eqFlat, tf, aOpI]) ?_
      refine AWp.exit ?_
      simp only [ThenA, BlockA, if_true]
      have hG' : rdPs 0 r ps = rdPs N0 r2 [] := by
        rw [← hG]
        cases q with
        | zero => rfl
        | succ q => unfold rdPs; rw [if_neg he]
      exact hgo _ _ _ _ _ hi hG' (by omega) (by simp only [List.forall_mem_cons, vcT, wantedA, kp, kp2, kpS, kr, k1, k2, kL, kLP, kFn, kFn2, kSl, kSl2, kSl3, kC2, kP0, kP1, ev, evs, evParts, evO, Nat.reduceLT, Nat.reduceEqDiff, reduceIte, fr0, okConst, okc, appendA, cellsA, boxA, allocA, storeA, loadA, fieldA, indexA, fieldV, indexV, partA, extractA, nilA, binA, intBin, unA, lenA, isAggD, isConst, Nat.reduceAdd, Nat.reduceMul, Nat.reduceLeDiff, Nat.reduceSub, Nat.reduceBEq, splice, reduceCtorEq, Int.reduceEq, Int.reduceLT, Int.reduceLE, Int.reduceNeg, Int.reduceBEq, String.reduceEq, eqFlat, tf, aOpI, frL_cons]; simp)
    simp -implicitDefEqProofs only [vcT, wantedA, kp, kp2, kpS, kr, k1, k2, kL, kLP, kFn, kFn2, kSl, kSl2, kSl3, kC2, kP0, kP1, ev, evs, evParts, evO, Nat.reduceLT, Nat.reduceEqDiff, reduceIte, fr0, okConst, okc, appendA, cellsA, boxA, allocA, storeA, loadA, fieldA, indexA, fieldV, indexV, partA, extractA, nilA, binA, intBin, unA, lenA, isAggD, isConst, Nat.reduceAdd, Nat.reduceMul, Nat.reduceLeDiff, Nat.reduceSub, Nat.reduceBEq, splice, reduceCtorEq, Int.reduceEq, Int.reduceLT, Int.reduceLE, Int.reduceNeg, Int.reduceBEq, String.reduceEq, eqFlat, tf, aOpI, frL_cons, ty36, isIfaceD, List.drop_succ_cons, List.drop_zero]
    refine hK _ _ ?_
    clear hK
    refine AWp.condT (by simp -implicitDefEqProofs only [vcT, wantedA, kp, kp2, kpS, kr, k1, k2, kL, kLP, kFn, kFn2, kSl, kSl2, kSl3, kC2, kP0, kP1, ev, evs, evParts, evO, Nat.reduceLT, Nat.reduceEqDiff, reduceIte, fr0, okConst, okc, appendA, cellsA, boxA, allocA, storeA, loadA, fieldA, indexA, fieldV, indexV, partA, extractA, nilA, binA, intBin, unA, lenA, isAggD, isConst, Nat.reduceAdd, Nat.reduceMul, Nat.reduceLeDiff, Nat.reduceSub, Nat.reduceBEq, splice, reduceCtorEq, Int.reduceEq, Int.reduceLT, Int.reduceLE, Int.reduceNeg, Int.reduceBEq, String.reduceEq, eqFlat, tf, aOpI]) ?_
    refine AWp.skip ?_
    refine hK1 _ _ ?_
    clear hK1
    clear hgo
    obtain ⟨q, rfl⟩ : ∃ k, q = k + 1 := ⟨q - 1, by omega⟩
    have w0 : IntKind.wrap .i64 ((i : Int) + 1) = ((i + 1 : Nat) : Int) := by rw [IntKind.wrap_i64]; omega
    have hG' : rdPs q (rdPtR r) (ps ++ [rdPt r]) = rdPs N0 r2 [] := by
      rw [← hG]
      conv => rhs; unfold rdPs
      rw [if_pos he]
    clear hG
    refine AWp.seqK fun K1 hK1 => ?_
    refine AWp.block ?_
    refine AWp.seq_region tok fun K hK => ?_
    refine aList_cut 1 fun K1 hK1 => ?_
    simp -implicitDefEqProofs only [vcT, wantedA, kp, kp2, kpS, kr, k1, k2, kL, kLP, kFn, kFn2, kSl, kSl2, kSl3, kC2, kP0, kP1, ev, evs, evParts, evO, Nat.reduceLT, Nat.reduceEqDiff, reduceIte, fr0, okConst, okc, appendA, cellsA, boxA, allocA, storeA, loadA, fieldA, indexA, fieldV, indexV, partA, extractA, nilA, binA, intBin, unA, lenA, isAggD, isConst, Nat.reduceAdd, Nat.reduceMul, Nat.reduceLeDiff, Nat.reduceSub, Nat.reduceBEq, splice, reduceCtorEq, Int.reduceEq, Int.reduceLT, Int.reduceLE, Int.reduceNeg, Int.reduceBEq, String.reduceEq, eqFlat, tf, aOpI, frL_cons, List.drop_succ_cons, List.drop_zero]
    refine hK1 _ _ ?_
    clear hK1
    refine aList_cut 1 fun K1 hK1 => ?_
    simp -implicitDefEqProofs only [vcT, wantedA, kp, kp2, kpS, kr, k1, k2, kL, kLP, kFn, kFn2, kSl, kSl2, kSl3, kC2, kP0, kP1, ev, evs, evParts, evO, Nat.reduceLT, Nat.reduceEqDiff, reduceIte, fr0, okConst, okc, appendA, cellsA, boxA, allocA, storeA, loadA, fieldA, indexA, fieldV, indexV, partA, extractA, nilA, binA, intBin, unA, lenA, isAggD, isConst, Nat.reduceAdd, Nat.reduceMul, Nat.reduceLeDiff, Nat.reduceSub, Nat.reduceBEq, splice, reduceCtorEq, Int.reduceEq, Int.reduceLT, Int.reduceLE, Int.reduceNeg, Int.reduceBEq, String.reduceEq, eqFlat, tf, aOpI, Array.toList_empty, List.drop_succ_cons, List.drop_zero, frL_cons]
    refine (ctake1 hi.p.box hi.p.rd).mono ?_
    rintro z S4 ⟨rfl, hm, hr⟩
    replace hi := hi.read hm hr
    clear hm hr
    refine hK1 _ _ ?_
    clear hK1
    refine aList_cut 1 fun K1 hK1 => ?_
    simp -implicitDefEqProofs only [vcT, wantedA, kp, kp2, kpS, kr, k1, k2, kL, kLP, kFn, kFn2, kSl, kSl2, kSl3, kC2, kP0, kP1, ev, evs, evParts, evO, Nat.reduceLT, Nat.reduceEqDiff, reduceIte, fr0, okConst, okc, appendA, cellsA, boxA, allocA, storeA, loadA, fieldA, indexA, fieldV, indexV, partA, extractA, nilA, binA, intBin, unA, lenA, isAggD, isConst, Nat.reduceAdd, Nat.reduceMul, Nat.reduceLeDiff, Nat.reduceSub, Nat.reduceBEq, splice, reduceCtorEq, Int.reduceEq, Int.reduceLT, Int.reduceLE, Int.reduceNeg, Int.reduceBEq, String.reduceEq, eqFlat, tf, aOpI, frL_cons, List.drop_succ_cons, List.drop_zero]
    refine hK1 _ _ ?_
    clear hK1
    refine aList_cut 1 fun K1 hK1 => ?_
    simp -implicitDefEqProofs only [vcT, wantedA, kp, kp2, kpS, kr, k1, k2, kL, kLP, kFn, kFn2, kSl, kSl2, kSl3, kC2, kP0, kP1, ev, evs, evParts, evO, Nat.reduceLT, Nat.reduceEqDiff, reduceIte, fr0, okConst, okc, appendA, cellsA, boxA, allocA, storeA, loadA, fieldA, indexA, fieldV, indexV, partA, extractA, nilA, binA, intBin, unA, lenA, isAggD, isConst, Nat.reduceAdd, Nat.reduceMul, Nat.reduceLeDiff, Nat.reduceSub, Nat.reduceBEq, splice, reduceCtorEq, Int.reduceEq, Int.reduceLT, Int.reduceLE, Int.reduceNeg, Int.reduceBEq, String.reduceEq, eqFlat, tf, aOpI, Array.toList_empty, List.drop_succ_cons, List.drop_zero, frL_cons]
    refine (ctake4 hi.p.box hi.p.rd).mono ?_
    rintro z S4 ⟨rfl, hm, hr⟩
    replace hi := hi.read hm hr
    clear hm hr
    refine hK1 _ _ ?_
    clear hK1
    refine aList_cut 1 fun K1 hK1 => ?_
    simp -implicitDefEqProofs only [vcT, wantedA, kp, kp2, kpS, kr, k1, k2, kL, kLP, kFn, kFn2, kSl, kSl2, kSl3, kC2, kP0, kP1, ev, evs, evParts, evO, Nat.reduceLT, Nat.reduceEqDiff, reduceIte, fr0, okConst, okc, appendA, cellsA, boxA, allocA, storeA, loadA, fieldA, indexA, fieldV, indexV, partA, extractA, nilA, binA, intBin, unA, lenA, isAggD, isConst, Nat.reduceAdd, Nat.reduceMul, Nat.reduceLeDiff, Nat.reduceSub, Nat.reduceBEq, splice, reduceCtorEq, Int.reduceEq, Int.reduceLT, Int.reduceLE, Int.reduceNeg, Int.reduceBEq, String.reduceEq, eqFlat, tf, aOpI, frL_cons, List.drop_succ_cons, List.drop_zero]
    refine hK1 _ _ ?_
    clear hK1
    refine aList_cut 1 fun K1 hK1 => ?_
    simp -implicitDefEqProofs only [vcT, wantedA, kp, kp2, kpS, kr, k1, k2, kL, kLP, kFn, kFn2, kSl, kSl2, kSl3, kC2, kP0, kP1, ev, evs, evParts, evO, Nat.reduceLT, Nat.reduceEqDiff, reduceIte, fr0, okConst, okc, appendA, cellsA, boxA, allocA, storeA, loadA, fieldA, indexA, fieldV, indexV, partA, extractA, nilA, binA, intBin, unA, lenA, isAggD, isConst, Nat.reduceAdd, Nat.reduceMul, Nat.reduceLeDiff, Nat.reduceSub, Nat.reduceBEq, splice, reduceCtorEq, Int.reduceEq, Int.reduceLT, Int.reduceLE, Int.reduceNeg, Int.reduceBEq, String.reduceEq, eqFlat, tf, aOpI, Array.toList_empty, List.drop_succ_cons, List.drop_zero, frL_cons]
    refine (ctake4 hi.p.box hi.p.rd).mono ?_
    rintro z S4 ⟨rfl, hm, hr⟩
    replace hi := hi.read hm hr
    clear hm hr
    refine hK1 _ _ ?_
    clear hK1
    refine aList_cut 1 fun K1 hK1 => ?_
    simp -implicitDefEqProofs only [vcT, wantedA, kp, kp2, kpS, kr, k1, k2, kL, kLP, kFn, kFn2, kSl, kSl2, kSl3, kC2, kP0, kP1, ev, evs, evParts, evO, Nat.reduceLT, Nat.reduceEqDiff, reduceIte, fr0, okConst, okc, appendA, cellsA, boxA, allocA, storeA, loadA, fieldA, indexA, fieldV, indexV, partA, extractA, nilA, binA, intBin, unA, lenA, isAggD, isConst, Nat.reduceAdd, Nat.reduceMul, Nat.reduceLeDiff, Nat.reduceSub, Nat.reduceBEq, splice, reduceCtorEq, Int.reduceEq, Int.reduceLT, Int.reduceLE, Int.reduceNeg, Int.reduceBEq, String.reduceEq, eqFlat, tf, aOpI, frL_cons, List.drop_succ_cons, List.drop_zero]
    refine hK1 _ _ ?_
    clear hK1
    refine aList_cut 1 fun K1 hK1 => ?_
    simp -implicitDefEqProofs only [vcT, wantedA, kp, kp2, kpS, kr, k1, k2, kL, kLP, kFn, kFn2, kSl, kSl2, kSl3, kC2, kP0, kP1, ev, evs, evParts, evO, Nat.reduceLT, Nat.reduceEqDiff, reduceIte, fr0, okConst, okc, appendA, cellsA, boxA, allocA, storeA, loadA, fieldA, indexA, fieldV, indexV, partA, extractA, nilA, binA, intBin, unA, lenA, isAggD, isConst, Nat.reduceAdd, Nat.reduceMul, Nat.reduceLeDiff, Nat.reduceSub, Nat.reduceBEq, splice, reduceCtorEq, Int.reduceEq, Int.reduceLT, Int.reduceLE, Int.reduceNeg, Int.reduceBEq, String.reduceEq, eqFlat, tf, aOpI, Array.toList_empty, List.drop_succ_cons, List.drop_zero, frL_cons]
    refine (ctake1 hi.p.box hi.p.rd).mono ?_
    rintro z S4 ⟨rfl, hm, hr⟩
    replace hi := hi.read hm hr
    clear hm hr
    refine hK1 _ _ ?_
    clear hK1
    refine aList_cut 1 fun K1 hK1 => ?_
    simp -implicitDefEqProofs only [vcT, wantedA, kp, kp2, kpS, kr, k1, k2, kL, kLP, kFn, kFn2, kSl, kSl2, kSl3, kC2, kP0, kP1, ev, evs, evParts, evO, Nat.reduceLT, Nat.reduceEqDiff, reduceIte, fr0, okConst, okc, appendA, cellsA, boxA, allocA, storeA, loadA, fieldA, indexA, fieldV, indexV, partA, extractA, nilA, binA, intBin, unA, lenA, isAggD, isConst, Nat.reduceAdd, Nat.reduceMul, Nat.reduceLeDiff, Nat.reduceSub, Nat.reduceBEq, splice, reduceCtorEq, Int.reduceEq, Int.reduceLT, Int.reduceLE, Int.reduceNeg, Int.reduceBEq, String.reduceEq, eqFlat, tf, aOpI, frL_cons, List.drop_succ_cons, List.drop_zero]
    refine hK1 _ _ ?_
    clear hK1
    refine aList_cut 1 fun K1 hK1 => ?_
    simp -implicitDefEqProofs only [vcT, wantedA, kp, kp2, kpS, kr, k1, k2, kL, kLP, kFn, kFn2, kSl, kSl2, kSl3, kC2, kP0, kP1, ev, evs, evParts, evO, Nat.reduceLT, Nat.reduceEqDiff, reduceIte, fr0, okConst, okc, appendA, cellsA, boxA, allocA, storeA, loadA, fieldA, indexA, fieldV, indexV, partA, extractA, nilA, binA, intBin, unA, lenA, isAggD, isConst, Nat.reduceAdd, Nat.reduceMul, Nat.reduceLeDiff, Nat.reduceSub, Nat.reduceBEq, splice, reduceCtorEq, Int.reduceEq, Int.reduceLT, Int.reduceLE, Int.reduceNeg, Int.reduceBEq, String.reduceEq, eqFlat, tf, aOpI, Array.toList_empty, List.drop_succ_cons, List.drop_zero, frL_cons]
    refine (ctake1 hi.p.box hi.p.rd).mono ?_
    rintro z S4 ⟨rfl, hm, hr⟩
    replace hi := hi.read hm hr
    clear hm hr
    refine hK1 _ _ ?_
    clear hK1
    simp -implicitDefEqProofs only [vcT, wantedA, kp, kp2, kpS, kr, k1, k2, kL, kLP, kFn, kFn2, kSl, kSl2, kSl3, kC2, kP0, kP1, ev, evs, evParts, evO, Nat.reduceLT, Nat.reduceEqDiff, reduceIte, fr0, okConst, okc, appendA, cellsA, boxA, allocA, storeA, loadA, fieldA, indexA, fieldV, indexV, partA, extractA, nilA, binA, intBin, unA, lenA, isAggD, isConst, Nat.reduceAdd, Nat.reduceMul, Nat.reduceLeDiff, Nat.reduceSub, Nat.reduceBEq, splice, reduceCtorEq, Int.reduceEq, Int.reduceLT, Int.reduceLE, Int.reduceNeg, Int.reduceBEq, String.reduceEq, eqFlat, tf, aOpI, frL_cons, ty108, bd108_5, List.drop_succ_cons, List.drop_zero]
    refine hK _ _ ?_
    clear hK
    obtain ⟨hap, haq⟩ := hi.app_
    obtain ⟨x, hx⟩ : ∃ x, x = S4.length := ⟨_, rfl⟩
    rw [← hx] at hap haq ⊢
    have hxlo : S.length + 1 < x := by have := (List.getElem?_eq_some_iff.1 hi.fr).1; have := hi.lo6; omega
    obtain ⟨base, hbase⟩ : ∃ base, base = [Value.int .i64 ((r.takeV 1 : Nat) : Int), .int .i64 (((r.takeR 1).takeV 4 : Nat) : Int), .int .i64 ((((r.takeR 1).takeR 4).takeV 4 : Nat) : Int), .int .i64 (((((r.takeR 1).takeR 4).takeR 4).takeV 1 : Nat) : Int), .int .i64 ((((((r.takeR 1).takeR 4).takeR 4).takeR 1).takeV 1 : Nat) : Int), .int .u8 0, .int .u8 0, .int .u8 0, .int .u8 0] := ⟨_, rfl⟩
    rw [← hbase]
    have hbl : base.length = 9 := by rw [hbase]; rfl
    have hfinC : ck base (((((r.takeR 1).takeR 4).takeR 4).takeR 1).takeR 1) 4 = (rdPt r).cells := by rw [hbase]; rfl
    have hfinR : rk (((((r.takeR 1).takeR 4).takeR 4).takeR 1).takeR 1) 4 = rdPtR r := rfl
    clear hbase
    generalize ((((r.takeR 1).takeR 4).takeR 4).takeR 1).takeR 1 = r5 at *
    have ht : (S4 ++ [AObj.row 108 true base])[x]? = some (.row 108 true base) := by rw [hx]; simp
    replace hi := hi.more [.row 108 true base]
    generalize (S4 ++ [AObj.row 108 true base]) = S5 at hi ht ⊢
    clear hx
    refine AWp.weak (Wk.fr (l := [(1, .pointer (some ⟨S.length, 0, none⟩)), (2, .pointer (some ⟨S.length + 1, 0, none⟩)), (3, .nilIface), (4, .func (.func 60) #[] #[.pointer (some ⟨S.length, 0, none⟩)]), (5, .func (.func 61) #[] #[.pointer (some ⟨S.length, 0, none⟩)]), (6, .pointer (some ⟨o6, 0, none⟩)), (7, .int .i64 (N0 : Int)), (8, .int .i64 (N1 : Int)), (9, .int .i64 (N2 : Int)), (10, .int .i64 (i : Int)), (11, .pointer (some ⟨x, 0, none⟩))]) (by simp only [List.forall_mem_cons, vcT, wantedA, kp, kp2, kpS, kr, k1, k2, kL, kLP, kFn, kFn2, kSl, kSl2, kSl3, kC2, kP0, kP1, ev, evs, evParts, evO, Nat.reduceLT, Nat.reduceEqDiff, reduceIte, fr0, okConst, okc, appendA, cellsA, boxA, allocA, storeA, loadA, fieldA, indexA, fieldV, indexV, partA, extractA, nilA, binA, intBin, unA, lenA, isAggD, isConst, Nat.reduceAdd, Nat.reduceMul, Nat.reduceLeDiff, Nat.reduceSub, Nat.reduceBEq, splice, reduceCtorEq, Int.reduceEq, Int.reduceLT, Int.reduceLE, Int.reduceNeg, Int.reduceBEq, String.reduceEq, eqFlat, tf, aOpI, frL_cons]; simp)) ?_
    have holx : x ≠ o := by have := hi.p.lo; omega
    refine AWp.seqK fun K2 hK2 => ?_
    refine AWp.seq_region tok fun K hK => ?_
    simp -implicitDefEqProofs only [vcT, wantedA, kp, kp2, kpS, kr, k1, k2, kL, kLP, kFn, kFn2, kSl, kSl2, kSl3, kC2, kP0, kP1, ev, evs, evParts, evO, Nat.reduceLT, Nat.reduceEqDiff, reduceIte, fr0, okConst, okc, appendA, cellsA, boxA, allocA, storeA, loadA, fieldA, indexA, fieldV, indexV, partA, extractA, nilA, binA, intBin, unA, lenA, isAggD, isConst, Nat.reduceAdd, Nat.reduceMul, Nat.reduceLeDiff, Nat.reduceSub, Nat.reduceBEq, splice, reduceCtorEq, Int.reduceEq, Int.reduceLT, Int.reduceLE, Int.reduceNeg, Int.reduceBEq, String.reduceEq, eqFlat, tf, aOpI]
    refine hK _ _ ?_
    clear hK
    refine AWp.block ?_
    refine AWp.loopW (fun q2 fr S2 => ∃ (k : Nat), q2 + k = 4 ∧ TdI S S2 o (rk r5 k) o6 { c0 with ps := ps } vp nilS nilS ∧ S2[x]? = some (.row 108 true (ck base r5 k)) ∧ fr = frL [(1, .pointer (some ⟨S.length, 0, none⟩)), (2, .pointer (some ⟨S.length + 1, 0, none⟩)), (3, .nilIface), (4, .func (.func 60) #[] #[.pointer (some ⟨S.length, 0, none⟩)]), (5, .func (.func 61) #[] #[.pointer (some ⟨S.length, 0, none⟩)]), (6, .pointer (some ⟨o6, 0, none⟩)), (7, .int .i64 (N0 : Int)), (8, .int .i64 (N1 : Int)), (9, .int .i64 (N2 : Int)), (10, .int .i64 (i : Int)), (11, .pointer (some ⟨x, 0, none⟩)), (73, .int .i64 (k : Int))]) 4
      ⟨_, _, Wk.frame ?_, 0, rfl, hi, ht, rfl⟩ ?_
    · simp only [List.forall_mem_cons, vcT, wantedA, kp, kp2, kpS, kr, k1, k2, kL, kLP, kFn, kFn2, kSl, kSl2, kSl3, kC2, kP0, kP1, ev, evs, evParts, evO, Nat.reduceLT, Nat.reduceEqDiff, reduceIte, fr0, okConst, okc, appendA, cellsA, boxA, allocA, storeA, loadA, fieldA, indexA, fieldV, indexV, partA, extractA, nilA, binA, intBin, unA, lenA, isAggD, isConst, Nat.reduceAdd, Nat.reduceMul, Nat.reduceLeDiff, Nat.reduceSub, Nat.reduceBEq, splice, reduceCtorEq, Int.reduceEq, Int.reduceLT, Int.reduceLE, Int.reduceNeg, Int.reduceBEq, String.reduceEq, eqFlat, tf, aOpI, frL_cons]
      simp
    clear hi ht
    rintro q2 fr S2 ⟨k, hqk, hi, ht, rfl⟩
    refine AWp.seq_region tok fun K hK => ?_
    simp -implicitDefEqProofs only [vcT, wantedA, kp, kp2, kpS, kr, k1, k2, kL, kLP, kFn, kFn2, kSl, kSl2, kSl3, kC2, kP0, kP1, ev, evs, evParts, evO, Nat.reduceLT, Nat.reduceEqDiff, reduceIte, fr0, okConst, okc, appendA, cellsA, boxA, allocA, storeA, loadA, fieldA, indexA, fieldV, indexV, partA, extractA, nilA, binA, intBin, unA, lenA, isAggD, isConst, Nat.reduceAdd, Nat.reduceMul, Nat.reduceLeDiff, Nat.reduceSub, Nat.reduceBEq, splice, reduceCtorEq, Int.reduceEq, Int.reduceLT, Int.reduceLE, Int.reduceNeg, Int.reduceBEq, String.reduceEq, eqFlat, tf, aOpI, frL_cons]
    refine hK _ _ ?_
    clear hK
    refine AWp.seqK fun K3 hK3 => ?_
    refine AWp.condP ((k : Int) < 4) (by simp only [vcT, wantedA, kp, kp2, kpS, kr, k1, k2, kL, kLP, kFn, kFn2, kSl, kSl2, kSl3, kC2, kP0, kP1, ev, evs, evParts, evO, Nat.reduceLT, Nat.reduceEqDiff, reduceIte, fr0, okConst, okc, appendA, cellsA, boxA, allocA, storeA, loadA, fieldA, indexA, fieldV, indexV, partA, extractA, nilA, binA, intBin, unA, lenA, isAggD, isConst, Nat.reduceAdd, Nat.reduceMul, Nat.reduceLeDiff, Nat.reduceSub, Nat.reduceBEq, splice, reduceCtorEq, Int.reduceEq, Int.reduceLT, Int.reduceLE, Int.reduceNeg, Int.reduceBEq, String.reduceEq, eqFlat, tf, aOpI]) (fun hkn => ?_) (fun hkn => ?_)
    rotate_left
    · refine AWp.exit ?_
      simp only [ThenA, BlockA, if_true]
      refine hK2 _ _ ?_
      clear hK2 hK3
      obtain rfl : k = 4 := by omega
      rw [hfinC] at ht
      rw [hfinR] at hi
      obtain ⟨u, S6, a1, a2, a3, a4, hi6⟩ := hi.addPt (m := rdPt r) (by dsimp only; omega)
      generalize rdPt r = p at *
      have hset : (cfC { c0 with ps := ps } vp nilS nilS).set 8 u = cfC { c0 with ps := ps ++ [p] } u nilS nilS := rfl
      have hfr := hi.fr
      have hfrR := at_old hfr [.row 108 true p.cells]
      have htR := at_old ht [.row 108 true p.cells]
      have hbs := bs52_1 p
      simp only [Pt.val] at hbs
      have f8c : (cfC { c0 with ps := ps } vp nilS nilS)[8]? = some vp := rfl
      have htk : List.take 9 p.cells = [.int .i64 p.node, .int .i64 p.start, .int .i64 p.len, .int .i64 p.budget, .int .i64 p.words, .int .u8 p.r0, .int .u8 p.r1, .int .u8 p.r2, .int .u8 p.r3] := rfl
      have htl : p.cells.length = 9 := rfl
      refine AWp.regionK tok fun K hK => ?_
      simp -implicitDefEqProofs only [vcT, wantedA, kp, kp2, kpS, kr, k1, k2, kL, kLP, kFn, kFn2, kSl, kSl2, kSl3, kC2, kP0, kP1, ev, evs, evParts, evO, Nat.reduceLT, Nat.reduceEqDiff, reduceIte, fr0, okConst, okc, cellsA, boxA, allocA, storeA, loadA, fieldA, indexA, fieldV, indexV, partA, extractA, nilA, binA, intBin, unA, lenA, isAggD, isConst, Nat.reduceAdd, Nat.reduceMul, Nat.reduceLeDiff, Nat.reduceSub, Nat.reduceBEq, splice, reduceCtorEq, Int.reduceEq, Int.reduceLT, Int.reduceLE, Int.reduceNeg, Int.reduceBEq, String.reduceEq, eqFlat, tf, aOpI, frL_cons, ht, hfr, hfrR, htR, f8c, htk, htl, hbs, a1, a2, a3, a4, ty56, ty52, ty108, cfC_len, hset]
      refine hK _ _ ?_
      refine hK1 _ _ ?_
      clear hK1
      refine AWp.regionK tok fun K hK => ?_
      simp -implicitDefEqProofs only [vcT, wantedA, kp, kp2, kpS, kr, k1, k2, kL, kLP, kFn, kFn2, kSl, kSl2, kSl3, kC2, kP0, kP1, ev, evs, evParts, evO, Nat.reduceLT, Nat.reduceEqDiff, reduceIte, fr0, okConst, okc, appendA, cellsA, boxA, allocA, storeA, loadA, fieldA, indexA, fieldV, indexV, partA, extractA, nilA, binA, intBin, unA, lenA, isAggD, isConst, Nat.reduceAdd, Nat.reduceMul, Nat.reduceLeDiff, Nat.reduceSub, Nat.reduceBEq, splice, reduceCtorEq, Int.reduceEq, Int.reduceLT, Int.reduceLE, Int.reduceNeg, Int.reduceBEq, String.reduceEq, eqFlat, tf, aOpI, frL_cons, w0]
      refine hK _ _ ?_
      clear hK
      exact ⟨q, _, _, by omega, Wk.frame (by simp only [List.forall_mem_cons, vcT, wantedA, kp, kp2, kpS, kr, k1, k2, kL, kLP, kFn, kFn2, kSl, kSl2, kSl3, kC2, kP0, kP1, ev, evs, evParts, evO, Nat.reduceLT, Nat.reduceEqDiff, reduceIte, fr0, okConst, okc, appendA, cellsA, boxA, allocA, storeA, loadA, fieldA, indexA, fieldV, indexV, partA, extractA, nilA, binA, intBin, unA, lenA, isAggD, isConst, Nat.reduceAdd, Nat.reduceMul, Nat.reduceLeDiff, Nat.reduceSub, Nat.reduceBEq, splice, reduceCtorEq, Int.reduceEq, Int.reduceLT, Int.reduceLE, Int.reduceNeg, Int.reduceBEq, String.reduceEq, eqFlat, tf, aOpI, frL_cons]; simp), _, _, u, i + 1, by omega, hG', by simp; omega, hi6, rfl⟩
    refine AWp.skip ?_
    refine hK3 _ _ ?_
    clear hK3
    have w1 : IntKind.wrap .i64 ((k : Int) + 1) = ((k + 1 : Nat) : Int) := by rw [IntKind.wrap_i64]; omega
    have b4 : 0 ≤ (k : Int) ∧ (k : Int) < 4 := by omega
    have b5 : (k : Int) < ((4 : Nat) : Int) := by omega
    have x0 : (k : Int).toNat = k := Int.toNat_natCast k
    have z1 := wU8 hi.p.rd.ok
    refine AWp.seqK fun K3 hK3 => ?_
    refine AWp.block ?_
    refine AWp.seq_region tok fun K hK => ?_
    simp -implicitDefEqProofs only [vcT, wantedA, kp, kp2, kpS, kr, k1, k2, kL, kLP, kFn, kFn2, kSl, kSl2, kSl3, kC2, kP0, kP1, ev, evs, evParts, evO, Nat.reduceLT, Nat.reduceEqDiff, reduceIte, fr0, okConst, okc, appendA, cellsA, boxA, allocA, storeA, loadA, fieldA, indexA, fieldV, indexV, partA, extractA, nilA, binA, intBin, unA, lenA, isAggD, isConst, Nat.reduceAdd, Nat.reduceMul, Nat.reduceLeDiff, Nat.reduceSub, Nat.reduceBEq, splice, reduceCtorEq, Int.reduceEq, Int.reduceLT, Int.reduceLE, Int.reduceNeg, Int.reduceBEq, String.reduceEq, eqFlat, tf, aOpI, frL_cons]
    refine hK _ _ ?_
    clear hK
    refine AWp.regionK tok fun K hK => ?_
    refine aList_cut 2 fun K1 hK1 => ?_
    simp -implicitDefEqProofs only [vcT, wantedA, kp, kp2, kpS, kr, k1, k2, kL, kLP, kFn, kFn2, kSl, kSl2, kSl3, kC2, kP0, kP1, ev, evs, evParts, evO, Nat.reduceLT, Nat.reduceEqDiff, reduceIte, fr0, okConst, okc, appendA, cellsA, boxA, allocA, storeA, loadA, fieldA, indexA, fieldV, indexV, partA, extractA, nilA, binA, intBin, unA, lenA, isAggD, isConst, Nat.reduceAdd, Nat.reduceMul, Nat.reduceLeDiff, Nat.reduceSub, Nat.reduceBEq, splice, reduceCtorEq, Int.reduceEq, Int.reduceLT, Int.reduceLE, Int.reduceNeg, Int.reduceBEq, String.reduceEq, eqFlat, tf, aOpI, frL_cons, List.drop_succ_cons, List.drop_zero]
    refine hK1 _ _ ?_
    clear hK1
    refine aList_cut 1 fun K1 hK1 => ?_
    simp -implicitDefEqProofs only [vcT, wantedA, kp, kp2, kpS, kr, k1, k2, kL, kLP, kFn, kFn2, kSl, kSl2, kSl3, kC2, kP0, kP1, ev, evs, evParts, evO, Nat.reduceLT, Nat.reduceEqDiff, reduceIte, fr0, okConst, okc, appendA, cellsA, boxA, allocA, storeA, loadA, fieldA, indexA, fieldV, indexV, partA, extractA, nilA, binA, intBin, unA, lenA, isAggD, isConst, Nat.reduceAdd, Nat.reduceMul, Nat.reduceLeDiff, Nat.reduceSub, Nat.reduceBEq, splice, reduceCtorEq, Int.reduceEq, Int.reduceLT, Int.reduceLE, Int.reduceNeg, Int.reduceBEq, String.reduceEq, eqFlat, tf, aOpI, Array.toList_empty, List.drop_succ_cons, List.drop_zero, frL_cons]
    refine (ctake1 hi.p.box hi.p.rd).mono ?_
    rintro z S4 ⟨rfl, hm, hr⟩
    replace ht := hm.get ht holx
    replace hi := hi.read hm hr
    clear hm hr
    refine hK1 _ _ ?_
    clear hK1
    have hcl := ck_len base r5 k
    rw [hbl] at hcl
    have hkl : 5 + k + 1 ≤ (ck base r5 k).length := by omega
    have hset : (ck base r5 k).set (5 + k) (.int .u8 (((rk r5 k).takeV 1 : Nat) : Int)) = ck base r5 (k + 1) := rfl
    simp -implicitDefEqProofs only [vcT, wantedA, kp, kp2, kpS, kr, k1, k2, kL, kLP, kFn, kFn2, kSl, kSl2, kSl3, kC2, kP0, kP1, ev, evs, evParts, evO, Nat.reduceLT, Nat.reduceEqDiff, reduceIte, fr0, okConst, okc, appendA, cellsA, boxA, allocA, storeA, loadA, fieldA, indexA, fieldV, indexV, partA, extractA, nilA, binA, intBin, unA, lenA, isAggD, isConst, Nat.reduceAdd, Nat.reduceMul, Nat.reduceLeDiff, Nat.reduceSub, Nat.reduceBEq, splice, reduceCtorEq, Int.reduceEq, Int.reduceLT, Int.reduceLE, Int.reduceNeg, Int.reduceBEq, String.reduceEq, eqFlat, tf, aOpI, frL_cons, ty3, ty79, ty106, ty108, convA, z1, ht, b4, b5, x0, Nat.mul_one, hkl, hset, List.drop_succ_cons, List.drop_zero]
    refine hK _ _ ?_
    clear hK
    refine hK3 _ _ ?_
    clear hK3
    have hlx := (List.getElem?_eq_some_iff.1 ht).1
    have hi2 := hi.setX ht hxlo (.inl rfl) hap haq (.row 108 true (ck base r5 (k + 1)))
    refine AWp.regionK tok fun K hK => ?_
    simp -implicitDefEqProofs only [vcT, wantedA, kp, kp2, kpS, kr, k1, k2, kL, kLP, kFn, kFn2, kSl, kSl2, kSl3, kC2, kP0, kP1, ev, evs, evParts, evO, Nat.reduceLT, Nat.reduceEqDiff, reduceIte, fr0, okConst, okc, appendA, cellsA, boxA, allocA, storeA, loadA, fieldA, indexA, fieldV, indexV, partA, extractA, nilA, binA, intBin, unA, lenA, isAggD, isConst, Nat.reduceAdd, Nat.reduceMul, Nat.reduceLeDiff, Nat.reduceSub, Nat.reduceBEq, splice, reduceCtorEq, Int.reduceEq, Int.reduceLT, Int.reduceLE, Int.reduceNeg, Int.reduceBEq, String.reduceEq, eqFlat, tf, aOpI, frL_cons, w1]
    refine hK _ _ ?_
    clear hK
    exact ⟨q2 - 1, _, _, by omega, Wk.frame (by simp only [List.forall_mem_cons, vcT, wantedA, kp, kp2, kpS, kr, k1, k2, kL, kLP, kFn, kFn2, kSl, kSl2, kSl3, kC2, kP0, kP1, ev, evs, evParts, evO, Nat.reduceLT, Nat.reduceEqDiff, reduceIte, fr0, okConst, okc, appendA, cellsA, boxA, allocA, storeA, loadA, fieldA, indexA, fieldV, indexV, partA, extractA, nilA, binA, intBin, unA, lenA, isAggD, isConst, Nat.reduceAdd, Nat.reduceMul, Nat.reduceLeDiff, Nat.reduceSub, Nat.reduceBEq, splice, reduceCtorEq, Int.reduceEq, Int.reduceLT, Int.reduceLE, Int.reduceNeg, Int.reduceBEq, String.reduceEq, eqFlat, tf, aOpI, frL_cons]; simp), k + 1, by omega, hi2, List.getElem?_set_self hlx, rfl⟩
  rcases Decidable.em (r.takeV 4 = 1163084593) with hmag | hmag
  · have g1 : (((r.takeV 4 : Nat) : Int) != 1163084593) = false := by rw [hmag]; rfl
    simp -implicitDefEqProofs only [vcT, wantedA, kp, kp2, kpS, kr, k1, k2, kL, kLP, kFn, kFn2, kSl, kSl2, kSl3, kC2, kP0, kP1, ev, evs, evParts, evO, Nat.reduceLT, Nat.reduceEqDiff, reduceIte, fr0, okConst, okc, appendA, cellsA, boxA, allocA, storeA, loadA, fieldA, indexA, fieldV, indexV, partA, extractA, nilA, binA, intBin, unA, lenA, isAggD, isConst, Nat.reduceAdd, Nat.reduceMul, Nat.reduceLeDiff, Nat.reduceSub, Nat.reduceBEq, splice, reduceCtorEq, Int.reduceEq, Int.reduceLT, Int.reduceLE, Int.reduceNeg, Int.reduceBEq, String.reduceEq, eqFlat, tf, aOpI, frL_cons, g1, List.drop_succ_cons, List.drop_zero]
    refine hK _ _ ?_
    clear hK
    refine AWp.condF (by simp -implicitDefEqProofs only [vcT, wantedA, kp, kp2, kpS, kr, k1, k2, kL, kLP, kFn, kFn2, kSl, kSl2, kSl3, kC2, kP0, kP1, ev, evs, evParts, evO, Nat.reduceLT, Nat.reduceEqDiff, reduceIte, fr0, okConst, okc, appendA, cellsA, boxA, allocA, storeA, loadA, fieldA, indexA, fieldV, indexV, partA, extractA, nilA, binA, intBin, unA, lenA, isAggD, isConst, Nat.reduceAdd, Nat.reduceMul, Nat.reduceLeDiff, Nat.reduceSub, Nat.reduceBEq, splice, reduceCtorEq, Int.reduceEq, Int.reduceLT, Int.reduceLE, Int.reduceNeg, Int.reduceBEq, String.reduceEq, eqFlat, tf, aOpI]) ?_
    refine AWp.skip (hgo (fun h => h.1 hmag) _ ?_ ?_ ?_ ?_ ?_)
    all_goals simp only [vcT, wantedA, kp, kp2, kpS, kr, k1, k2, kL, kLP, kFn, kFn2, kSl, kSl2, kSl3, kC2, kP0, kP1, ev, evs, evParts, evO, Nat.reduceLT, Nat.reduceEqDiff, reduceIte, fr0, okConst, okc, appendA, cellsA, boxA, allocA, storeA, loadA, fieldA, indexA, fieldV, indexV, partA, extractA, nilA, binA, intBin, unA, lenA, isAggD, isConst, Nat.reduceAdd, Nat.reduceMul, Nat.reduceLeDiff, Nat.reduceSub, Nat.reduceBEq, splice, reduceCtorEq, Int.reduceEq, Int.reduceLT, Int.reduceLE, Int.reduceNeg, Int.reduceBEq, String.reduceEq, eqFlat, tf, aOpI, frL_cons]
  have g1 : (((r.takeV 4 : Nat) : Int) != 1163084593) = true := by
    simp
    omega
  refine aList_cut 3 fun K1 hK1 => ?_
  simp -implicitDefEqProofs only [vcT, wantedA, kp, kp2, kpS, kr, k1, k2, kL, kLP, kFn, kFn2, kSl, kSl2, kSl3, kC2, kP0, kP1, ev, evs, evParts, evO, Nat.reduceLT, Nat.reduceEqDiff, reduceIte, fr0, okConst, okc, appendA, cellsA, boxA, allocA, storeA, loadA, fieldA, indexA, fieldV, indexV, partA, extractA, nilA, binA, intBin, unA, lenA, isAggD, isConst, Nat.reduceAdd, Nat.reduceMul, Nat.reduceLeDiff, Nat.reduceSub, Nat.reduceBEq, splice, reduceCtorEq, Int.reduceEq, Int.reduceLT, Int.reduceLE, Int.reduceNeg, Int.reduceBEq, String.reduceEq, eqFlat, tf, aOpI, frL_cons, g1, hi.box, ty71, List.drop_succ_cons, List.drop_zero]
  refine hK1 _ _ ?_
  clear hK1
  refine aList_cut 1 fun K1 hK1 => ?_
  simp -implicitDefEqProofs only [vcT, wantedA, kp, kp2, kpS, kr, k1, k2, kL, kLP, kFn, kFn2, kSl, kSl2, kSl3, kC2, kP0, kP1, ev, evs, evParts, evO, Nat.reduceLT, Nat.reduceEqDiff, reduceIte, fr0, okConst, okc, appendA, cellsA, boxA, allocA, storeA, loadA, fieldA, indexA, fieldV, indexV, partA, extractA, nilA, binA, intBin, unA, lenA, isAggD, isConst, Nat.reduceAdd, Nat.reduceMul, Nat.reduceLeDiff, Nat.reduceSub, Nat.reduceBEq, splice, reduceCtorEq, Int.reduceEq, Int.reduceLT, Int.reduceLE, Int.reduceNeg, Int.reduceBEq, String.reduceEq, eqFlat, tf, aOpI, Array.toList_empty, List.drop_succ_cons, List.drop_zero, frL_cons]
  refine (rerr hi.rd).mono ?_
  rintro z S6 ⟨rfl, hx⟩
  refine hK1 _ _ ?_
  clear hK1
  rcases hx with ⟨he2, rfl⟩ | ⟨he2, t, v, rfl⟩
  rotate_left
  · simp -implicitDefEqProofs only [vcT, wantedA, kp, kp2, kpS, kr, k1, k2, kL, kLP, kFn, kFn2, kSl, kSl2, kSl3, kC2, kP0, kP1, ev, evs, evParts, evO, Nat.reduceLT, Nat.reduceEqDiff, reduceIte, fr0, okConst, okc, appendA, cellsA, boxA, allocA, storeA, loadA, fieldA, indexA, fieldV, indexV, partA, extractA, nilA, binA, intBin, unA, lenA, isAggD, isConst, Nat.reduceAdd, Nat.reduceMul, Nat.reduceLeDiff, Nat.reduceSub, Nat.reduceBEq, splice, reduceCtorEq, Int.reduceEq, Int.reduceLT, Int.reduceLE, Int.reduceNeg, Int.reduceBEq, String.reduceEq, eqFlat, tf, aOpI, frL_cons, ty36, isIfaceD, List.drop_succ_cons, List.drop_zero]
    refine hK _ _ ?_
    clear hK
    refine AWp.condF (by simp -implicitDefEqProofs only [vcT, wantedA, kp, kp2, kpS, kr, k1, k2, kL, kLP, kFn, kFn2, kSl, kSl2, kSl3, kC2, kP0, kP1, ev, evs, evParts, evO, Nat.reduceLT, Nat.reduceEqDiff, reduceIte, fr0, okConst, okc, appendA, cellsA, boxA, allocA, storeA, loadA, fieldA, indexA, fieldV, indexV, partA, extractA, nilA, binA, intBin, unA, lenA, isAggD, isConst, Nat.reduceAdd, Nat.reduceMul, Nat.reduceLeDiff, Nat.reduceSub, Nat.reduceBEq, splice, reduceCtorEq, Int.reduceEq, Int.reduceLT, Int.reduceLE, Int.reduceNeg, Int.reduceBEq, String.reduceEq, eqFlat, tf, aOpI]) ?_
    refine AWp.skip (hgo (fun h => he2 h.2) _ ?_ ?_ ?_ ?_ ?_)
    all_goals simp only [vcT, wantedA, kp, kp2, kpS, kr, k1, k2, kL, kLP, kFn, kFn2, kSl, kSl2, kSl3, kC2, kP0, kP1, ev, evs, evParts, evO, Nat.reduceLT, Nat.reduceEqDiff, reduceIte, fr0, okConst, okc, appendA, cellsA, boxA, allocA, storeA, loadA, fieldA, indexA, fieldV, indexV, partA, extractA, nilA, binA, intBin, unA, lenA, isAggD, isConst, Nat.reduceAdd, Nat.reduceMul, Nat.reduceLeDiff, Nat.reduceSub, Nat.reduceBEq, splice, reduceCtorEq, Int.reduceEq, Int.reduceLT, Int.reduceLE, Int.reduceNeg, Int.reduceBEq, String.reduceEq, eqFlat, tf, aOpI, frL_cons]
  simp -implicitDefEqProofs only [vcT, wantedA, kp, kp2, kpS, kr, k1, k2, kL, kLP, kFn, kFn2, kSl, kSl2, kSl3, kC2, kP0, kP1, ev, evs, evParts, evO, Nat.reduceLT, Nat.reduceEqDiff, reduceIte, fr0, okConst, okc, appendA, cellsA, boxA, allocA, storeA, loadA, fieldA, indexA, fieldV, indexV, partA, extractA, nilA, binA, intBin, unA, lenA, isAggD, isConst, Nat.reduceAdd, Nat.reduceMul, Nat.reduceLeDiff, Nat.reduceSub, Nat.reduceBEq, splice, reduceCtorEq, Int.reduceEq, Int.reduceLT, Int.reduceLE, Int.reduceNeg, Int.reduceBEq, String.reduceEq, eqFlat, tf, aOpI, frL_cons, ty36, isIfaceD, List.drop_succ_cons, List.drop_zero]
  refine hK _ _ ?_
  clear hK
  refine AWp.condT (by simp -implicitDefEqProofs only [vcT, wantedA, kp, kp2, kpS, kr, k1, k2, kL, kLP, kFn, kFn2, kSl, kSl2, kSl3, kC2, kP0, kP1, ev, evs, evParts, evO, Nat.reduceLT, Nat.reduceEqDiff, reduceIte, fr0, okConst, okc, appendA, cellsA, boxA, allocA, storeA, loadA, fieldA, indexA, fieldV, indexV, partA, extractA, nilA, binA, intBin, unA, lenA, isAggD, isConst, Nat.reduceAdd, Nat.reduceMul, Nat.reduceLeDiff, Nat.reduceSub, Nat.reduceBEq, splice, reduceCtorEq, Int.reduceEq, Int.reduceLT, Int.reduceLE, Int.reduceNeg, Int.reduceBEq, String.reduceEq, eqFlat, tf, aOpI]) ?_
  have hP2 : P = (zT, [(7, 0)], r.takeR 4) := by
    rw [← hP]
    unfold rdT
    rw [if_pos ⟨hmag, he2⟩]
  subst hP2
  refine AWp.seq_region tok fun K hK => ?_
  refine aList_cut 1 fun K1 hK1 => ?_
  simp -implicitDefEqProofs only [vcT, wantedA, kp, kp2, kpS, kr, k1, k2, kL, kLP, kFn, kFn2, kSl, kSl2, kSl3, kC2, kP0, kP1, ev, evs, evParts, evO, Nat.reduceLT, Nat.reduceEqDiff, reduceIte, fr0, okConst, okc, appendA, cellsA, boxA, allocA, storeA, loadA, fieldA, indexA, fieldV, indexV, partA, extractA, nilA, binA, intBin, unA, lenA, isAggD, isConst, Nat.reduceAdd, Nat.reduceMul, Nat.reduceLeDiff, Nat.reduceSub, Nat.reduceBEq, splice, reduceCtorEq, Int.reduceEq, Int.reduceLT, Int.reduceLE, Int.reduceNeg, Int.reduceBEq, String.reduceEq, eqFlat, tf, aOpI, frL_cons, bd56_0]
  refine hK1 _ _ ?_
  clear hK1
  refine aList_cut 1 fun K1 hK1 => ?_
  simp -implicitDefEqProofs only [vcT, wantedA, kp, kp2, kpS, kr, k1, k2, kL, kLP, kFn, kFn2, kSl, kSl2, kSl3, kC2, kP0, kP1, ev, evs, evParts, evO, Nat.reduceLT, Nat.reduceEqDiff, reduceIte, fr0, okConst, okc, appendA, cellsA, boxA, allocA, storeA, loadA, fieldA, indexA, fieldV, indexV, partA, extractA, nilA, binA, intBin, unA, lenA, isAggD, isConst, Nat.reduceAdd, Nat.reduceMul, Nat.reduceLeDiff, Nat.reduceSub, Nat.reduceBEq, splice, reduceCtorEq, Int.reduceEq, Int.reduceLT, Int.reduceLE, Int.reduceNeg, Int.reduceBEq, String.reduceEq, eqFlat, tf, aOpI, Array.toList_empty, List.drop_succ_cons, List.drop_zero, frL_cons]
  refine (call28 7 0 (by decide) _).mono ?_
  rintro z S7 ⟨rfl, rfl⟩
  refine hK1 _ _ ?_
  clear hK1
  have hpre := hi.more [.row 96 true [.int .i64 7, .int .i64 (topM 0), .nilIface]]
  have hres := hpre.res
  have hfin := hpre.fin (.row 56 true (cfC zT nilS nilS nilS))
  have hl5 := (List.getElem?_eq_some_iff.1 hres).1
  have hr3 : ∀ x, ((S6 ++ [AObj.row 96 true [.int .i64 7, .int .i64 (topM 0), .nilIface]]).set (S.length + 1) x)[S.length + 1]? = some x := fun x => List.getElem?_set_self hl5
  have hne6 : S6.length ≠ S.length + 1 := by have := (List.getElem?_eq_some_iff.1 hi.res).1; omega
  simp only [cfC, nilS] at hres hfin
  simp only [cfV, nilS]
  simp -implicitDefEqProofs only [vcT, wantedA, kp, kp2, kpS, kr, k1, k2, kL, kLP, kFn, kFn2, kSl, kSl2, kSl3, kC2, kP0, kP1, ev, evs, evParts, evO, Nat.reduceLT, Nat.reduceEqDiff, reduceIte, fr0, okConst, okc, appendA, cellsA, boxA, allocA, storeA, loadA, fieldA, indexA, fieldV, indexV, partA, extractA, nilA, binA, intBin, unA, lenA, isAggD, isConst, Nat.reduceAdd, Nat.reduceMul, Nat.reduceLeDiff, Nat.reduceSub, Nat.reduceBEq, splice, reduceCtorEq, Int.reduceEq, Int.reduceLT, Int.reduceLE, Int.reduceNeg, Int.reduceBEq, String.reduceEq, eqFlat, tf, aOpI, frL_cons, hres, ty56, List.drop_succ_cons, List.drop_zero]
  refine hK _ _ ?_
  clear hK
  refine AWp.ret ?_
  simp -implicitDefEqProofs only [vcT, wantedA, kp, kp2, kpS, kr, k1, k2, kL, kLP, kFn, kFn2, kSl, kSl2, kSl3, kC2, kP0, kP1, ev, evs, evParts, evO, Nat.reduceLT, Nat.reduceEqDiff, reduceIte, fr0, okConst, okc, appendA, cellsA, boxA, allocA, storeA, loadA, fieldA, indexA, fieldV, indexV, partA, extractA, nilA, binA, intBin, unA, lenA, isAggD, isConst, Nat.reduceAdd, Nat.reduceMul, Nat.reduceLeDiff, Nat.reduceSub, Nat.reduceBEq, splice, reduceCtorEq, Int.reduceEq, Int.reduceLT, Int.reduceLE, Int.reduceNeg, Int.reduceBEq, String.reduceEq, eqFlat, tf, aOpI, ThenA, BlockA, EndA, ressA, resA, wrapA, frL_cons, hr3, ty56]
  refine ⟨hfin.1, hfin.2, _, _, _, _, rfl, zT_at _, S6.length, .nilIface, rfl, ?_, rfl⟩
  rw [List.getElem?_set_ne (Ne.symm hne6)]
  simp
  rfl
end Go.Proofs.Ytpgiiidnimbdgaa
