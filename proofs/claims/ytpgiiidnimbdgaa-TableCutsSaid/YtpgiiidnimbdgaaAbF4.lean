/- Bytes sealed with their check, and opened: walked; the document's check, too. -/
import Derived.Test.YtpgiiidnimbdgaaAbF3
namespace Go.Proofs.Ytpgiiidnimbdgaa
open Go.Ab
set_option linter.unusedSimpArgs false
set_option linter.unusedVariables false

def le4 (s : Nat) : List Nat := [s % 256, s / 256 % 256, s / 65536 % 256, s / 16777216 % 256]
def sealB (l : List Nat) : List Nat := l ++ le4 (crcSum l)
def openB (l : List Nat) : Option (List Nat) := if l.length < 4 then none else if sealB (l.take (l.length - 4)) = l then some (l.take (l.length - 4)) else none
theorem le4_len (s : Nat) : (le4 s).length = 4 := rfl
theorem sealB_len (l : List Nat) : (sealB l).length = l.length + 4 := by simp [sealB, le4]
theorem le4_by (s : Nat) : IsBy (le4 s) := by
  intro x hx
  simp only [le4, List.mem_cons, List.not_mem_nil, or_false] at hx
  omega
theorem sealB_by {l : List Nat} (h : IsBy l) : IsBy (sealB l) := h.append (le4_by _)

theorem bs22_0 (S : St) : buildSliceA TT S 22 0 [] = some (.slice (some ⟨S.length, 0, none⟩) 0 1, S ++ [.row 5 true []]) := by kernel_rfl
theorem bs22_4 (S : St) (a b c d : Int) : buildSliceA TT S 22 4 [(0, .int .u8 a), (1, .int .u8 b), (2, .int .u8 c), (3, .int .u8 d)] = some (.slice (some ⟨S.length, 0, none⟩) 4 1, S ++ [.row 5 true [.int .u8 a, .int .u8 b, .int .u8 c, .int .u8 d]]) := by kernel_rfl

theorem enter16 (cargs : Array Value) (w : World) : (callFunc 16 cargs).run Try.prog w = .ok (.enter 16 cargs) w := by kernel_rfl
theorem call16 {S : St} {v : Value} {l : List Nat} (hv : SlB S v l) (hl : IsBy l) (hln : l.length ≤ 140737488355324) :
    ACalls Try.prog 16 [v] S (fun x S' => Keeps S S' ∧ OwB S' S.length x (sealB l)) := by
  refine ACalls.of tok enter16 Try.func16 rfl (m := 24) rfl (by simp) (rs := [.tmp 2]) rfl fun hc ha => ?_
  clear ha
  refine AWp.seq_region tok fun K hK => ?_
  simp -implicitDefEqProofs only [vcT, wantedA, kp, kp2, kpS, kr, k1, k2, kL, kLP, kFn, kFn2, kSl, kSl2, kSl3, kC2, kP0, kP1, ev, evs, evParts, evO, Nat.reduceLT, Nat.reduceEqDiff, reduceIte, fr0, okConst, okc, appendA, cellsA, boxA, allocA, storeA, loadA, fieldA, indexA, fieldV, indexV, partA, extractA, nilA, binA, intBin, unA, lenA, isAggD, isConst, Nat.reduceAdd, Nat.reduceMul, Nat.reduceLeDiff, Nat.reduceSub, Nat.reduceBEq, splice, reduceCtorEq, Int.reduceEq, Int.reduceLT, Int.reduceLE, Int.reduceNeg, Int.reduceBEq, String.reduceEq, eqFlat, tf, aOpI]
  refine hK _ _ ?_
  clear hK
  refine AWp.seq_region tok fun K hK => ?_
  refine aList_cut 1 fun K1 hK1 => ?_
  simp -implicitDefEqProofs only [vcT, wantedA, kp, kp2, kpS, kr, k1, k2, kL, kLP, kFn, kFn2, kSl, kSl2, kSl3, kC2, kP0, kP1, ev, evs, evParts, evO, Nat.reduceLT, Nat.reduceEqDiff, reduceIte, fr0, okConst, okc, appendA, cellsA, boxA, allocA, storeA, loadA, fieldA, indexA, fieldV, indexV, partA, extractA, nilA, binA, intBin, unA, lenA, isAggD, isConst, Nat.reduceAdd, Nat.reduceMul, Nat.reduceLeDiff, Nat.reduceSub, Nat.reduceBEq, splice, reduceCtorEq, Int.reduceEq, Int.reduceLT, Int.reduceLE, Int.reduceNeg, Int.reduceBEq, String.reduceEq, eqFlat, tf, aOpI]
  refine hK1 _ _ ?_
  clear hK1
  refine aList_cut 1 fun K1 hK1 => ?_
  simp -implicitDefEqProofs only [vcT, wantedA, kp, kp2, kpS, kr, k1, k2, kL, kLP, kFn, kFn2, kSl, kSl2, kSl3, kC2, kP0, kP1, ev, evs, evParts, evO, Nat.reduceLT, Nat.reduceEqDiff, reduceIte, fr0, okConst, okc, appendA, cellsA, boxA, allocA, storeA, loadA, fieldA, indexA, fieldV, indexV, partA, extractA, nilA, binA, intBin, unA, lenA, isAggD, isConst, Nat.reduceAdd, Nat.reduceMul, Nat.reduceLeDiff, Nat.reduceSub, Nat.reduceBEq, splice, reduceCtorEq, Int.reduceEq, Int.reduceLT, Int.reduceLE, Int.reduceNeg, Int.reduceBEq, String.reduceEq, eqFlat, tf, aOpI, Array.toList_empty, List.drop_succ_cons, List.drop_zero]
  refine (call46 hv hl (by omega)).mono ?_
  rintro r S' ⟨rfl, rfl⟩
  refine hK1 _ _ ?_
  clear hK1
  simp -implicitDefEqProofs only [vcT, wantedA, kp, kp2, kpS, kr, k1, k2, kL, kLP, kFn, kFn2, kSl, kSl2, kSl3, kC2, kP0, kP1, ev, evs, evParts, evO, Nat.reduceLT, Nat.reduceEqDiff, reduceIte, fr0, okConst, okc, appendA, cellsA, boxA, allocA, storeA, loadA, fieldA, indexA, fieldV, indexV, partA, extractA, nilA, binA, intBin, unA, lenA, isAggD, isConst, Nat.reduceAdd, Nat.reduceMul, Nat.reduceLeDiff, Nat.reduceSub, Nat.reduceBEq, splice, reduceCtorEq, Int.reduceEq, Int.reduceLT, Int.reduceLE, Int.reduceNeg, Int.reduceBEq, String.reduceEq, eqFlat, tf, aOpI, List.drop_succ_cons, List.drop_zero]
  refine hK _ _ ?_
  clear hK
  have hc1 : ∀ R, cellsA (S' ++ R) 1 v = some (l.length, bys l) := fun R => (hv.append R).cells
  have k1' : l.length ≤ 140737488355328 := by omega
  have k2' : l.length ≤ 9223372036854775807 := by omega
  have k3' : l.length + 4 ≤ 140737488355328 := by omega
  have k4' : l.length + 4 ≤ 9223372036854775807 := by omega
  have k5' : (bys l).length = l.length := bys_len l
  have k6' : (bys l).take l.length = bys l := by rw [← bys_len, List.take_length]
  refine AWp.seq_region tok fun K hK => ?_
  simp -implicitDefEqProofs only [vcT, wantedA, kp, kp2, kpS, kr, k1, k2, kL, kLP, kFn, kFn2, kSl, kSl2, kSl3, kC2, kP0, kP1, ev, evs, evParts, evO, Nat.reduceLT, Nat.reduceEqDiff, reduceIte, fr0, okConst, okc, appendA, boxA, allocA, storeA, loadA, fieldA, indexA, fieldV, indexV, partA, extractA, nilA, binA, intBin, unA, lenA, isAggD, isConst, Nat.reduceAdd, Nat.reduceMul, Nat.reduceLeDiff, Nat.reduceSub, Nat.reduceBEq, splice, reduceCtorEq, Int.reduceEq, Int.reduceLT, Int.reduceLE, Int.reduceNeg, Int.reduceBEq, String.reduceEq, eqFlat, tf, aOpI, bs22_0, ty22, ty5, hc1, k1', k2', Nat.mul_one]
  refine hK _ _ ?_
  clear hK
  generalize hs : crcSum l = s at *
  refine AWp.seq_region tok fun K hK => ?_
  simp -implicitDefEqProofs only [vcT, wantedA, kp, kp2, kpS, kr, k1, k2, kL, kLP, kFn, kFn2, kSl, kSl2, kSl3, kC2, kP0, kP1, ev, evs, evParts, evO, Nat.reduceLT, Nat.reduceEqDiff, reduceIte, fr0, okConst, okc, appendA, cellsA, boxA, allocA, storeA, loadA, fieldA, indexA, fieldV, indexV, partA, extractA, nilA, binA, intBin, unA, lenA, isAggD, isConst, Nat.reduceAdd, Nat.reduceMul, Nat.reduceLeDiff, Nat.reduceSub, Nat.reduceBEq, splice, reduceCtorEq, Int.reduceEq, Int.reduceLT, Int.reduceLE, Int.reduceNeg, Int.reduceBEq, String.reduceEq, eqFlat, tf, aOpI, ty22, ty5, ty24, convA, wrap_u8_nat, shr8, shr16, shr24, bs22_4, k3', k4', k5', k6', Nat.mul_one, Nat.le_refl]
  refine hK _ _ ?_
  clear hK
  refine AWp.ret ?_
  simp -implicitDefEqProofs only [vcT, wantedA, kp, kp2, kpS, kr, k1, k2, kL, kLP, kFn, kFn2, kSl, kSl2, kSl3, kC2, kP0, kP1, ev, evs, evParts, evO, Nat.reduceLT, Nat.reduceEqDiff, reduceIte, fr0, okConst, okc, appendA, cellsA, boxA, allocA, storeA, loadA, fieldA, indexA, fieldV, indexV, partA, extractA, nilA, binA, intBin, unA, lenA, isAggD, isConst, Nat.reduceAdd, Nat.reduceMul, Nat.reduceLeDiff, Nat.reduceSub, Nat.reduceBEq, splice, reduceCtorEq, Int.reduceEq, Int.reduceLT, Int.reduceLE, Int.reduceNeg, Int.reduceBEq, String.reduceEq, eqFlat, tf, aOpI, ThenA, BlockA, EndA, ressA, resA, wrapA]
  exact ⟨Keeps.append _ _, S'.length + 3, by omega, by rw [sealB_len], by simp only [vcT, wantedA, kp, kp2, kpS, kr, k1, k2, kL, kLP, kFn, kFn2, kSl, kSl2, kSl3, kC2, kP0, kP1, ev, evs, evParts, evO, Nat.reduceLT, Nat.reduceEqDiff, reduceIte, fr0, okConst, okc, appendA, cellsA, boxA, allocA, storeA, loadA, fieldA, indexA, fieldV, indexV, partA, extractA, nilA, binA, intBin, unA, lenA, isAggD, isConst, Nat.reduceAdd, Nat.reduceMul, Nat.reduceLeDiff, Nat.reduceSub, Nat.reduceBEq, splice, reduceCtorEq, Int.reduceEq, Int.reduceLT, Int.reduceLE, Int.reduceNeg, Int.reduceBEq, String.reduceEq, eqFlat, tf, aOpI]; rw [sealB, hs, bys_append]; rfl⟩

/-! four bytes, the lowest first -/
def leV : List Nat → Nat
  | [] => 0
  | x :: d => x + 256 * leV d
theorem leV_lt : ∀ {d : List Nat}, IsBy d → leV d < 256 ^ d.length
  | [], _ => by simp [leV]
  | x :: d, h => by
    have h1 := h x (by simp)
    have h2 := leV_lt (d := d) (fun y hy => h y (by simp [hy]))
    simp only [leV, List.length_cons, Nat.pow_succ]
    omega
theorem leV_snoc : ∀ (d : List Nat) (x : Nat), leV (d ++ [x]) = leV d + x * 256 ^ d.length
  | [], x => by simp [leV]
  | y :: d, x => by
    simp only [List.cons_append, leV, leV_snoc d x, List.length_cons, Nat.pow_succ, Nat.mul_add, Nat.add_assoc]
    congr 2
    rw [Nat.mul_comm 256, Nat.mul_assoc]
theorem leV_or {d : List Nat} (hd : IsBy d) {j x : Nat} (hx : d[j]? = some x) : leV (d.take j) ||| x * 2 ^ (8 * j) = leV (d.take (j + 1)) := by
  have hj := (List.getElem?_eq_some_iff.1 hx).1
  have hl : (d.take j).length = j := by simp; omega
  have e : (256 : Nat) ^ j = 2 ^ (8 * j) := by rw [show (256 : Nat) = 2 ^ 8 from rfl, ← Nat.pow_mul]
  have h1 := leV_lt (hd.take j)
  rw [hl, e] at h1
  rw [take_snoc hx, leV_snoc, hl, e, Nat.or_comm, ← Nat.shiftLeft_eq, ← Nat.shiftLeft_add_eq_or_of_lt h1, Nat.add_comm]
theorem le4_leV {d : List Nat} (hd : IsBy d) (hl : d.length = 4) : le4 (leV d) = d := by
  match d, hl with
  | [a, b, c, e], _ =>
    have h1 := hd a (by simp)
    have h2 := hd b (by simp)
    have h3 := hd c (by simp)
    have h4 := hd e (by simp)
    simp only [leV, le4, List.cons.injEq, and_true]
    omega
theorem leV_le4 {s : Nat} (h : s < 4294967296) : leV (le4 s) = s := by
  simp only [leV, le4]
  omega
theorem openB_some {l : List Nat} (hl : IsBy l) (h4 : 4 ≤ l.length) : (crcSum (l.take (l.length - 4)) = leV (l.drop (l.length - 4))) ↔ openB l = some (l.take (l.length - 4)) := by
  have hs := crcSum_lt (hl.take (l.length - 4))
  have hd : (l.drop (l.length - 4)).length = 4 := by simp; omega
  have hdb := hl.drop (l.length - 4)
  unfold openB
  rw [if_neg (by omega)]
  constructor
  · intro h
    rw [if_pos]
    unfold sealB
    rw [h, le4_leV hdb hd, List.take_append_drop]
  · intro h
    split at h
    · rename_i h2
      unfold sealB at h2
      have h3 : le4 (crcSum (l.take (l.length - 4))) = l.drop (l.length - 4) := by
        have := congrArg (List.drop (l.length - 4)) h2
        rw [List.drop_left' (by simp)] at this
        exact this
      rw [← h3, leV_le4 hs]
    · cases h
theorem openB_none {l : List Nat} (h : ¬ openB l = some (l.take (l.length - 4))) : openB l = none := by
  unfold openB at *
  split
  · rfl
  · rename_i h4
    rw [if_neg h4] at h
    split
    · rename_i h5; rw [if_pos h5] at h; exact absurd rfl h
    · rfl
theorem shl32 {x k : Nat} (hk : k ≤ 32) (h : x * 2 ^ k < 4294967296) : shiftA .shl .u32 (x : Int) (k : Int) = some (.int .u32 ((x * 2 ^ k : Nat) : Int)) := by
  unfold shiftA
  rw [if_neg (by omega)]
  simp only [Int.toNat_natCast, IntKind.bits, Nat.min_eq_left hk]
  have : ((x : Int) * 2 ^ k) = ((x * 2 ^ k : Nat) : Int) := by simp
  rw [this, wrap_u32_nat h]

/-- What opening comes to. -/
def OpenQ (S : St) (l : List Nat) (r : Value) (S' : St) : Prop :=
  Keeps S S' ∧ ((∃ inn u, openB l = some inn ∧ r = .tuple #[u, .bool true] ∧ OwB S' S.length u inn) ∨ (openB l = none ∧ r = .tuple #[.slice none 0 0, .bool false]))

theorem enter26 (cargs : Array Value) (w : World) : (callFunc 26 cargs).run Try.prog w = .ok (.enter 26 cargs) w := by kernel_rfl
set_option maxHeartbeats 1000000 in
theorem call26 {S : St} {v : Value} {l : List Nat} (hv : SlB S v l) (hl : IsBy l) (hln : l.length ≤ 140737488355324) : ACalls Try.prog 26 [v] S (OpenQ S l) := by
  refine ACalls.of tok enter26 Try.func26 rfl (m := 42) rfl (by simp) (rs := [.tmp 2, .tmp 3]) rfl fun hc ha => ?_
  clear ha
  refine AWp.seq_region tok fun K hK => ?_
  simp -implicitDefEqProofs only [vcT, wantedA, kp, kp2, kpS, kr, k1, k2, kL, kLP, kFn, kFn2, kSl, kSl2, kSl3, kC2, kP0, kP1, ev, evs, evParts, evO, Nat.reduceLT, Nat.reduceEqDiff, reduceIte, fr0, okConst, okc, appendA, cellsA, boxA, allocA, storeA, loadA, fieldA, indexA, fieldV, indexV, partA, extractA, nilA, binA, intBin, unA, lenA, isAggD, isConst, Nat.reduceAdd, Nat.reduceMul, Nat.reduceLeDiff, Nat.reduceSub, Nat.reduceBEq, splice, reduceCtorEq, Int.reduceEq, Int.reduceLT, Int.reduceLE, Int.reduceNeg, Int.reduceBEq, String.reduceEq, eqFlat, tf, aOpI]
  refine hK _ _ ?_
  clear hK
  refine AWp.seqK fun K0 hK0 => ?_
  rcases Nat.lt_or_ge l.length 4 with h4 | h4
  · have h4' : (l.length : Int) < 4 := by omega
    refine AWp.seq_region tok fun K hK => ?_
    simp -implicitDefEqProofs only [vcT, wantedA, kp, kp2, kpS, kr, k1, k2, kL, kLP, kFn, kFn2, kSl, kSl2, kSl3, kC2, kP0, kP1, ev, evs, evParts, evO, Nat.reduceLT, Nat.reduceEqDiff, reduceIte, fr0, okConst, okc, appendA, cellsA, boxA, allocA, storeA, loadA, fieldA, indexA, fieldV, indexV, partA, extractA, nilA, binA, intBin, unA, isAggD, isConst, Nat.reduceAdd, Nat.reduceMul, Nat.reduceLeDiff, Nat.reduceSub, Nat.reduceBEq, splice, reduceCtorEq, Int.reduceEq, Int.reduceLT, Int.reduceLE, Int.reduceNeg, Int.reduceBEq, String.reduceEq, eqFlat, tf, aOpI, hv.len, h4']
    refine hK _ _ ?_
    clear hK
    refine AWp.condT (by simp -implicitDefEqProofs only [vcT, wantedA, kp, kp2, kpS, kr, k1, k2, kL, kLP, kFn, kFn2, kSl, kSl2, kSl3, kC2, kP0, kP1, ev, evs, evParts, evO, Nat.reduceLT, Nat.reduceEqDiff, reduceIte, fr0, okConst, okc, appendA, cellsA, boxA, allocA, storeA, loadA, fieldA, indexA, fieldV, indexV, partA, extractA, nilA, binA, intBin, unA, lenA, isAggD, isConst, Nat.reduceAdd, Nat.reduceMul, Nat.reduceLeDiff, Nat.reduceSub, Nat.reduceBEq, splice, reduceCtorEq, Int.reduceEq, Int.reduceLT, Int.reduceLE, Int.reduceNeg, Int.reduceBEq, String.reduceEq, eqFlat, tf, aOpI]) ?_
    refine AWp.seq_region tok fun K hK => ?_
    simp -implicitDefEqProofs only [vcT, wantedA, kp, kp2, kpS, kr, k1, k2, kL, kLP, kFn, kFn2, kSl, kSl2, kSl3, kC2, kP0, kP1, ev, evs, evParts, evO, Nat.reduceLT, Nat.reduceEqDiff, reduceIte, fr0, okConst, okc, appendA, cellsA, boxA, allocA, storeA, loadA, fieldA, indexA, fieldV, indexV, partA, extractA, nilA, binA, intBin, unA, lenA, isAggD, isConst, Nat.reduceAdd, Nat.reduceMul, Nat.reduceLeDiff, Nat.reduceSub, Nat.reduceBEq, splice, reduceCtorEq, Int.reduceEq, Int.reduceLT, Int.reduceLE, Int.reduceNeg, Int.reduceBEq, String.reduceEq, eqFlat, tf, aOpI]
    refine hK _ _ ?_
    clear hK
    refine AWp.ret ?_
    simp -implicitDefEqProofs only [vcT, wantedA, kp, kp2, kpS, kr, k1, k2, kL, kLP, kFn, kFn2, kSl, kSl2, kSl3, kC2, kP0, kP1, ev, evs, evParts, evO, Nat.reduceLT, Nat.reduceEqDiff, reduceIte, fr0, okConst, okc, appendA, cellsA, boxA, allocA, storeA, loadA, fieldA, indexA, fieldV, indexV, partA, extractA, nilA, binA, intBin, unA, lenA, isAggD, isConst, Nat.reduceAdd, Nat.reduceMul, Nat.reduceLeDiff, Nat.reduceSub, Nat.reduceBEq, splice, reduceCtorEq, Int.reduceEq, Int.reduceLT, Int.reduceLE, Int.reduceNeg, Int.reduceBEq, String.reduceEq, eqFlat, tf, aOpI, ThenA, BlockA, EndA, ressA, resA, wrapA]
    exact ⟨Keeps.refl _, .inr ⟨by rw [openB, if_pos h4], rfl⟩⟩
  have h4' : ¬ (l.length : Int) < 4 := by omega
  refine AWp.seq_region tok fun K hK => ?_
  simp -implicitDefEqProofs only [vcT, wantedA, kp, kp2, kpS, kr, k1, k2, kL, kLP, kFn, kFn2, kSl, kSl2, kSl3, kC2, kP0, kP1, ev, evs, evParts, evO, Nat.reduceLT, Nat.reduceEqDiff, reduceIte, fr0, okConst, okc, appendA, cellsA, boxA, allocA, storeA, loadA, fieldA, indexA, fieldV, indexV, partA, extractA, nilA, binA, intBin, unA, isAggD, isConst, Nat.reduceAdd, Nat.reduceMul, Nat.reduceLeDiff, Nat.reduceSub, Nat.reduceBEq, splice, reduceCtorEq, Int.reduceEq, Int.reduceLT, Int.reduceLE, Int.reduceNeg, Int.reduceBEq, String.reduceEq, eqFlat, tf, aOpI, hv.len, h4']
  refine hK _ _ ?_
  clear hK
  refine AWp.condF (by simp -implicitDefEqProofs only [vcT, wantedA, kp, kp2, kpS, kr, k1, k2, kL, kLP, kFn, kFn2, kSl, kSl2, kSl3, kC2, kP0, kP1, ev, evs, evParts, evO, Nat.reduceLT, Nat.reduceEqDiff, reduceIte, fr0, okConst, okc, appendA, cellsA, boxA, allocA, storeA, loadA, fieldA, indexA, fieldV, indexV, partA, extractA, nilA, binA, intBin, unA, lenA, isAggD, isConst, Nat.reduceAdd, Nat.reduceMul, Nat.reduceLeDiff, Nat.reduceSub, Nat.reduceBEq, splice, reduceCtorEq, Int.reduceEq, Int.reduceLT, Int.reduceLE, Int.reduceNeg, Int.reduceBEq, String.reduceEq, eqFlat, tf, aOpI]) ?_
  refine AWp.skip ?_
  refine hK0 _ _ ?_
  clear hK0
  have w1 : IntKind.wrap .i64 ((l.length : Int) - 4) = ((l.length - 4 : Nat) : Int) := by rw [IntKind.wrap_i64]; omega
  obtain ⟨u1, s1, hu1⟩ := hv.sub 0 (l.length - 4) (by omega) (by omega) none (some (.int .i64 ((l.length - 4 : Nat) : Int))) (.inr ⟨rfl, rfl⟩) (.inl rfl)
  obtain ⟨u2, s2, hu2⟩ := hv.sub (l.length - 4) l.length (by omega) (by omega) (some (.int .i64 ((l.length - 4 : Nat) : Int))) none (.inl rfl) (.inr ⟨rfl, rfl⟩)
  rw [List.drop_zero] at hu1
  rw [List.take_length] at hu2
  have hd : (l.drop (l.length - 4)).length = 4 := by simp; omega
  have hdb := hl.drop (l.length - 4)
  have hib := hl.take (l.length - 4)
  have hl2 := hu2.len
  rw [hd] at hl2
  have hiff := openB_some hl h4
  obtain ⟨d, hde⟩ : ∃ d, l.drop (l.length - 4) = d := ⟨_, rfl⟩
  obtain ⟨inn, hie⟩ : ∃ inn, l.take (l.length - 4) = inn := ⟨_, rfl⟩
  have hin : inn.length ≤ 140737488355324 := by rw [← hie]; simp; omega
  have hnone := @openB_none l
  rw [hie] at hnone
  rw [hde, hie] at hiff
  rw [hde] at hd hdb hu2
  rw [hie] at hib hu1
  refine AWp.seq_region tok fun K hK => ?_
  simp -implicitDefEqProofs only [vcT, wantedA, kp, kp2, kpS, kr, k1, k2, kL, kLP, kFn, kFn2, kSl, kSl2, kSl3, kC2, kP0, kP1, ev, evs, evParts, evO, Nat.reduceLT, Nat.reduceEqDiff, reduceIte, fr0, okConst, okc, appendA, cellsA, boxA, allocA, storeA, loadA, fieldA, indexA, fieldV, indexV, partA, extractA, nilA, binA, intBin, unA, isAggD, isConst, Nat.reduceAdd, Nat.reduceMul, Nat.reduceLeDiff, Nat.reduceSub, Nat.reduceBEq, splice, reduceCtorEq, Int.reduceEq, Int.reduceLT, Int.reduceLE, Int.reduceNeg, Int.reduceBEq, String.reduceEq, eqFlat, tf, aOpI, hv.len, w1, s1]
  refine hK _ _ ?_
  clear hK
  refine AWp.seqK fun K0 hK0 => ?_
  refine AWp.seq_region tok fun K hK => ?_
  simp -implicitDefEqProofs only [vcT, wantedA, kp, kp2, kpS, kr, k1, k2, kL, kLP, kFn, kFn2, kSl, kSl2, kSl3, kC2, kP0, kP1, ev, evs, evParts, evO, Nat.reduceLT, Nat.reduceEqDiff, reduceIte, fr0, okConst, okc, appendA, cellsA, boxA, allocA, storeA, loadA, fieldA, indexA, fieldV, indexV, partA, extractA, nilA, binA, intBin, unA, isAggD, isConst, Nat.reduceAdd, Nat.reduceMul, Nat.reduceLeDiff, Nat.reduceSub, Nat.reduceBEq, splice, reduceCtorEq, Int.reduceEq, Int.reduceLT, Int.reduceLE, Int.reduceNeg, Int.reduceBEq, String.reduceEq, eqFlat, tf, aOpI, hv.len, hl2, w1, s2]
  refine hK _ _ ?_
  clear hK
  refine AWp.block ?_
  refine AWp.loopW (fun q f S1 => ∃ (j : Nat), q + j = 4 ∧ f = frL [(0, v), (4, u1), (5, .int .u32 ((leV (d.take j) : Nat) : Int)), (20, u2), (21, .int .i64 ((4 : Nat) : Int)), (22, .int .i64 j)] ∧ S = S1) 4
    ⟨_, _, Wk.frame ?_, 0, rfl, rfl, rfl⟩ ?_
  · simp only [List.forall_mem_cons, vcT, wantedA, kp, kp2, kpS, kr, k1, k2, kL, kLP, kFn, kFn2, kSl, kSl2, kSl3, kC2, kP0, kP1, ev, evs, evParts, evO, Nat.reduceLT, Nat.reduceEqDiff, reduceIte, fr0, okConst, okc, appendA, cellsA, boxA, allocA, storeA, loadA, fieldA, indexA, fieldV, indexV, partA, extractA, nilA, binA, intBin, unA, lenA, isAggD, isConst, Nat.reduceAdd, Nat.reduceMul, Nat.reduceLeDiff, Nat.reduceSub, Nat.reduceBEq, splice, reduceCtorEq, Int.reduceEq, Int.reduceLT, Int.reduceLE, Int.reduceNeg, Int.reduceBEq, String.reduceEq, eqFlat, tf, aOpI]
    simp [leV]
  rintro q f S1 ⟨j, hqj, rfl, rfl⟩
  refine AWp.seq_region tok fun K hK => ?_
  simp -implicitDefEqProofs only [vcT, wantedA, kp, kp2, kpS, kr, k1, k2, kL, kLP, kFn, kFn2, kSl, kSl2, kSl3, kC2, kP0, kP1, ev, evs, evParts, evO, Nat.reduceLT, Nat.reduceEqDiff, reduceIte, fr0, okConst, okc, appendA, cellsA, boxA, allocA, storeA, loadA, fieldA, indexA, fieldV, indexV, partA, extractA, nilA, binA, intBin, unA, lenA, isAggD, isConst, Nat.reduceAdd, Nat.reduceMul, Nat.reduceLeDiff, Nat.reduceSub, Nat.reduceBEq, splice, reduceCtorEq, Int.reduceEq, Int.reduceLT, Int.reduceLE, Int.reduceNeg, Int.reduceBEq, String.reduceEq, eqFlat, tf, aOpI, frL_cons]
  refine hK _ _ ?_
  clear hK
  refine AWp.seqK fun K1 hK1 => ?_
  refine AWp.condP ((j : Int) < ((4 : Nat) : Int)) (by simp only [vcT, wantedA, kp, kp2, kpS, kr, k1, k2, kL, kLP, kFn, kFn2, kSl, kSl2, kSl3, kC2, kP0, kP1, ev, evs, evParts, evO, Nat.reduceLT, Nat.reduceEqDiff, reduceIte, fr0, okConst, okc, appendA, cellsA, boxA, allocA, storeA, loadA, fieldA, indexA, fieldV, indexV, partA, extractA, nilA, binA, intBin, unA, lenA, isAggD, isConst, Nat.reduceAdd, Nat.reduceMul, Nat.reduceLeDiff, Nat.reduceSub, Nat.reduceBEq, splice, reduceCtorEq, Int.reduceEq, Int.reduceLT, Int.reduceLE, Int.reduceNeg, Int.reduceBEq, String.reduceEq, eqFlat, tf, aOpI]) (fun h => ?_) (fun h => ?_)
  rotate_left
  · refine AWp.exit ?_
    simp only [ThenA, BlockA, if_true]
    refine hK0 _ _ ?_
    obtain rfl : j = 4 := by omega
    have htk : d.take 4 = d := List.take_of_length_le (by omega)
    rw [htk]
    clear hK0 hK1
    refine AWp.seqK fun K0 hK0 => ?_
    refine AWp.seq_region tok fun K hK => ?_
    refine aList_cut 1 fun K1 hK1 => ?_
    simp -implicitDefEqProofs only [vcT, wantedA, kp, kp2, kpS, kr, k1, k2, kL, kLP, kFn, kFn2, kSl, kSl2, kSl3, kC2, kP0, kP1, ev, evs, evParts, evO, Nat.reduceLT, Nat.reduceEqDiff, reduceIte, fr0, okConst, okc, appendA, cellsA, boxA, allocA, storeA, loadA, fieldA, indexA, fieldV, indexV, partA, extractA, nilA, binA, intBin, unA, lenA, isAggD, isConst, Nat.reduceAdd, Nat.reduceMul, Nat.reduceLeDiff, Nat.reduceSub, Nat.reduceBEq, splice, reduceCtorEq, Int.reduceEq, Int.reduceLT, Int.reduceLE, Int.reduceNeg, Int.reduceBEq, String.reduceEq, eqFlat, tf, aOpI, frL_cons]
    refine hK1 _ _ ?_
    clear hK1
    refine aList_cut 1 fun K1 hK1 => ?_
    simp -implicitDefEqProofs only [vcT, wantedA, kp, kp2, kpS, kr, k1, k2, kL, kLP, kFn, kFn2, kSl, kSl2, kSl3, kC2, kP0, kP1, ev, evs, evParts, evO, Nat.reduceLT, Nat.reduceEqDiff, reduceIte, fr0, okConst, okc, appendA, cellsA, boxA, allocA, storeA, loadA, fieldA, indexA, fieldV, indexV, partA, extractA, nilA, binA, intBin, unA, lenA, isAggD, isConst, Nat.reduceAdd, Nat.reduceMul, Nat.reduceLeDiff, Nat.reduceSub, Nat.reduceBEq, splice, reduceCtorEq, Int.reduceEq, Int.reduceLT, Int.reduceLE, Int.reduceNeg, Int.reduceBEq, String.reduceEq, eqFlat, tf, aOpI, Array.toList_empty, List.drop_succ_cons, List.drop_zero]
    refine (call46 hu1 hib (by omega)).mono ?_
    rintro r S' ⟨rfl, rfl⟩
    refine hK1 _ _ ?_
    clear hK1
    simp -implicitDefEqProofs only [vcT, wantedA, kp, kp2, kpS, kr, k1, k2, kL, kLP, kFn, kFn2, kSl, kSl2, kSl3, kC2, kP0, kP1, ev, evs, evParts, evO, Nat.reduceLT, Nat.reduceEqDiff, reduceIte, fr0, okConst, okc, appendA, cellsA, boxA, allocA, storeA, loadA, fieldA, indexA, fieldV, indexV, partA, extractA, nilA, binA, intBin, unA, lenA, isAggD, isConst, Nat.reduceAdd, Nat.reduceMul, Nat.reduceLeDiff, Nat.reduceSub, Nat.reduceBEq, splice, reduceCtorEq, Int.reduceEq, Int.reduceLT, Int.reduceLE, Int.reduceNeg, Int.reduceBEq, String.reduceEq, eqFlat, tf, aOpI, frL_cons, List.drop_succ_cons, List.drop_zero]
    refine hK _ _ ?_
    clear hK
    refine AWp.condB (((crcSum inn : Nat) : Int) != ((leV d : Nat) : Int)) (by simp -implicitDefEqProofs only [vcT, wantedA, kp, kp2, kpS, kr, k1, k2, kL, kLP, kFn, kFn2, kSl, kSl2, kSl3, kC2, kP0, kP1, ev, evs, evParts, evO, Nat.reduceLT, Nat.reduceEqDiff, reduceIte, fr0, okConst, okc, appendA, cellsA, boxA, allocA, storeA, loadA, fieldA, indexA, fieldV, indexV, partA, extractA, nilA, binA, intBin, unA, lenA, isAggD, isConst, Nat.reduceAdd, Nat.reduceMul, Nat.reduceLeDiff, Nat.reduceSub, Nat.reduceBEq, splice, reduceCtorEq, Int.reduceEq, Int.reduceLT, Int.reduceLE, Int.reduceNeg, Int.reduceBEq, String.reduceEq, eqFlat, tf, aOpI]) (fun h9 => ?_) (fun h9 => ?_)
    · have h9' : ¬ crcSum inn = leV d := by intro e; rw [e] at h9; simp at h9
      refine AWp.seq_region tok fun K hK => ?_
      simp -implicitDefEqProofs only [vcT, wantedA, kp, kp2, kpS, kr, k1, k2, kL, kLP, kFn, kFn2, kSl, kSl2, kSl3, kC2, kP0, kP1, ev, evs, evParts, evO, Nat.reduceLT, Nat.reduceEqDiff, reduceIte, fr0, okConst, okc, appendA, cellsA, boxA, allocA, storeA, loadA, fieldA, indexA, fieldV, indexV, partA, extractA, nilA, binA, intBin, unA, lenA, isAggD, isConst, Nat.reduceAdd, Nat.reduceMul, Nat.reduceLeDiff, Nat.reduceSub, Nat.reduceBEq, splice, reduceCtorEq, Int.reduceEq, Int.reduceLT, Int.reduceLE, Int.reduceNeg, Int.reduceBEq, String.reduceEq, eqFlat, tf, aOpI]
      refine hK _ _ ?_
      clear hK
      refine AWp.ret ?_
      simp -implicitDefEqProofs only [vcT, wantedA, kp, kp2, kpS, kr, k1, k2, kL, kLP, kFn, kFn2, kSl, kSl2, kSl3, kC2, kP0, kP1, ev, evs, evParts, evO, Nat.reduceLT, Nat.reduceEqDiff, reduceIte, fr0, okConst, okc, appendA, cellsA, boxA, allocA, storeA, loadA, fieldA, indexA, fieldV, indexV, partA, extractA, nilA, binA, intBin, unA, lenA, isAggD, isConst, Nat.reduceAdd, Nat.reduceMul, Nat.reduceLeDiff, Nat.reduceSub, Nat.reduceBEq, splice, reduceCtorEq, Int.reduceEq, Int.reduceLT, Int.reduceLE, Int.reduceNeg, Int.reduceBEq, String.reduceEq, eqFlat, tf, aOpI, ThenA, BlockA, EndA, ressA, resA, wrapA]
      exact ⟨Keeps.refl _, .inr ⟨hnone (fun e => h9' (hiff.2 e)), rfl⟩⟩
    · have h9' : crcSum inn = leV d := by simp at h9; omega
      refine AWp.skip ?_
      refine hK0 _ _ ?_
      clear hK0
      have hc1 : ∀ R, cellsA (S' ++ R) 1 u1 = some (inn.length, bys inn) := fun R => (hu1.append R).cells
      have k1' : inn.length ≤ 140737488355328 := by omega
      have k2' : inn.length ≤ 9223372036854775807 := by omega
      refine AWp.seq_region tok fun K hK => ?_
      simp -implicitDefEqProofs only [vcT, wantedA, kp, kp2, kpS, kr, k1, k2, kL, kLP, kFn, kFn2, kSl, kSl2, kSl3, kC2, kP0, kP1, ev, evs, evParts, evO, Nat.reduceLT, Nat.reduceEqDiff, reduceIte, fr0, okConst, okc, appendA, boxA, allocA, storeA, loadA, fieldA, indexA, fieldV, indexV, partA, extractA, nilA, binA, intBin, unA, lenA, isAggD, isConst, Nat.reduceAdd, Nat.reduceMul, Nat.reduceLeDiff, Nat.reduceSub, Nat.reduceBEq, splice, reduceCtorEq, Int.reduceEq, Int.reduceLT, Int.reduceLE, Int.reduceNeg, Int.reduceBEq, String.reduceEq, eqFlat, tf, aOpI, bs22_0, ty22, ty5, hc1, k1', k2', Nat.mul_one, frL_cons]
      refine hK _ _ ?_
      clear hK
      refine AWp.ret ?_
      simp -implicitDefEqProofs only [vcT, wantedA, kp, kp2, kpS, kr, k1, k2, kL, kLP, kFn, kFn2, kSl, kSl2, kSl3, kC2, kP0, kP1, ev, evs, evParts, evO, Nat.reduceLT, Nat.reduceEqDiff, reduceIte, fr0, okConst, okc, appendA, cellsA, boxA, allocA, storeA, loadA, fieldA, indexA, fieldV, indexV, partA, extractA, nilA, binA, intBin, unA, lenA, isAggD, isConst, Nat.reduceAdd, Nat.reduceMul, Nat.reduceLeDiff, Nat.reduceSub, Nat.reduceBEq, splice, reduceCtorEq, Int.reduceEq, Int.reduceLT, Int.reduceLE, Int.reduceNeg, Int.reduceBEq, String.reduceEq, eqFlat, tf, aOpI, ThenA, BlockA, EndA, ressA, resA, wrapA]
      exact ⟨Keeps.append _ _, .inl ⟨inn, _, hiff.1 h9', rfl, S'.length + 1, by omega, rfl, by simp only [vcT, wantedA, kp, kp2, kpS, kr, k1, k2, kL, kLP, kFn, kFn2, kSl, kSl2, kSl3, kC2, kP0, kP1, ev, evs, evParts, evO, Nat.reduceLT, Nat.reduceEqDiff, reduceIte, fr0, okConst, okc, appendA, cellsA, boxA, allocA, storeA, loadA, fieldA, indexA, fieldV, indexV, partA, extractA, nilA, binA, intBin, unA, lenA, isAggD, isConst, Nat.reduceAdd, Nat.reduceMul, Nat.reduceLeDiff, Nat.reduceSub, Nat.reduceBEq, splice, reduceCtorEq, Int.reduceEq, Int.reduceLT, Int.reduceLE, Int.reduceNeg, Int.reduceBEq, String.reduceEq, eqFlat, tf, aOpI]⟩⟩
  refine AWp.skip ?_
  refine hK1 _ _ ?_
  clear hK1
  obtain ⟨x, hx⟩ : ∃ x, d[j]? = some x := ⟨_, List.getElem?_eq_getElem (by omega)⟩
  obtain ⟨p, hp1, hp2⟩ := hu2.idx hx
  have hp3 := hp2 _ (Keeps.refl _)
  have hx256 := hdb x (List.mem_of_getElem? hx)
  have w3 : IntKind.wrap .i64 ((j : Int) + 1) = ((j + 1 : Nat) : Int) := by rw [IntKind.wrap_i64]; omega
  have w2 : IntKind.wrap .u32 (x : Int) = x := wrap_u32_nat (by omega)
  have w4 : IntKind.wrap .i64 (8 * (j : Int)) = ((8 * j : Nat) : Int) := by rw [IntKind.wrap_i64]; omega
  have hpow : 2 ^ (8 * j) ≤ 2 ^ 24 := Nat.pow_le_pow_right (by omega) (by omega)
  have hxp : x * 2 ^ (8 * j) < 4294967296 := by
    have := Nat.mul_le_mul (by omega : x ≤ 255) hpow
    omega
  have w5 := shl32 (x := x) (k := 8 * j) (by omega) hxp
  have hle : leV (d.take j) < 4294967296 := by
    have := leV_lt (hdb.take j)
    have h2 : (d.take j).length ≤ 4 := by simp; omega
    have h3 : 256 ^ (d.take j).length ≤ 256 ^ 4 := Nat.pow_le_pow_right (by omega) h2
    omega
  have w6 := or32 hle hxp
  rw [leV_or hdb hx] at w6
  refine AWp.seqK fun K1 hK1 => ?_
  refine AWp.block ?_
  refine AWp.seq_region tok fun K hK => ?_
  simp -implicitDefEqProofs only [vcT, wantedA, kp, kp2, kpS, kr, k1, k2, kL, kLP, kFn, kFn2, kSl, kSl2, kSl3, kC2, kP0, kP1, ev, evs, evParts, evO, Nat.reduceLT, Nat.reduceEqDiff, reduceIte, fr0, okConst, okc, appendA, cellsA, boxA, allocA, storeA, fieldA, fieldV, indexV, partA, extractA, nilA, binA, intBin, unA, lenA, isAggD, isConst, Nat.reduceAdd, Nat.reduceMul, Nat.reduceLeDiff, Nat.reduceSub, Nat.reduceBEq, splice, reduceCtorEq, Int.reduceEq, Int.reduceLT, Int.reduceLE, Int.reduceNeg, Int.reduceBEq, String.reduceEq, eqFlat, tf, aOpI, frL_cons, hp1, hp3]
  refine hK _ _ ?_
  clear hK
  refine AWp.regionK tok fun K hK => ?_
  simp -implicitDefEqProofs only [vcT, wantedA, kp, kp2, kpS, kr, k1, k2, kL, kLP, kFn, kFn2, kSl, kSl2, kSl3, kC2, kP0, kP1, ev, evs, evParts, evO, Nat.reduceLT, Nat.reduceEqDiff, reduceIte, fr0, okConst, okc, appendA, cellsA, boxA, allocA, storeA, loadA, fieldA, indexA, fieldV, indexV, partA, extractA, nilA, binA, intBin, unA, lenA, isAggD, isConst, Nat.reduceAdd, Nat.reduceMul, Nat.reduceLeDiff, Nat.reduceSub, Nat.reduceBEq, splice, reduceCtorEq, Int.reduceEq, Int.reduceLT, Int.reduceLE, Int.reduceNeg, Int.reduceBEq, String.reduceEq, eqFlat, tf, aOpI, frL_cons, ty24, ty5, convA, w2, w4, w5, w6]
  refine hK _ _ ?_
  refine hK1 _ _ ?_
  refine AWp.regionK tok fun K hK => ?_
  simp -implicitDefEqProofs only [vcT, wantedA, kp, kp2, kpS, kr, k1, k2, kL, kLP, kFn, kFn2, kSl, kSl2, kSl3, kC2, kP0, kP1, ev, evs, evParts, evO, Nat.reduceLT, Nat.reduceEqDiff, reduceIte, fr0, okConst, okc, appendA, cellsA, boxA, allocA, storeA, loadA, fieldA, indexA, fieldV, indexV, partA, extractA, nilA, binA, intBin, unA, lenA, isAggD, isConst, Nat.reduceAdd, Nat.reduceMul, Nat.reduceLeDiff, Nat.reduceSub, Nat.reduceBEq, splice, reduceCtorEq, Int.reduceEq, Int.reduceLT, Int.reduceLE, Int.reduceNeg, Int.reduceBEq, String.reduceEq, eqFlat, tf, aOpI, frL_cons, w3]
  refine hK _ _ ?_
  exact ⟨q - 1, _, _, by omega, Wk.frame (by simp only [List.forall_mem_cons, vcT, wantedA, kp, kp2, kpS, kr, k1, k2, kL, kLP, kFn, kFn2, kSl, kSl2, kSl3, kC2, kP0, kP1, ev, evs, evParts, evO, Nat.reduceLT, Nat.reduceEqDiff, reduceIte, fr0, okConst, okc, appendA, cellsA, boxA, allocA, storeA, loadA, fieldA, indexA, fieldV, indexV, partA, extractA, nilA, binA, intBin, unA, lenA, isAggD, isConst, Nat.reduceAdd, Nat.reduceMul, Nat.reduceLeDiff, Nat.reduceSub, Nat.reduceBEq, splice, reduceCtorEq, Int.reduceEq, Int.reduceLT, Int.reduceLE, Int.reduceNeg, Int.reduceBEq, String.reduceEq, eqFlat, tf, aOpI, frL_cons]; simp), j + 1, by omega, rfl, rfl⟩
end Go.Proofs.Ytpgiiidnimbdgaa
