/- The check of bytes, walked. -/
import Derived.Test.YtpgiiidnimbdgaaAbF2
namespace Go.Proofs.Ytpgiiidnimbdgaa
open Go.Ab
set_option linter.unusedSimpArgs false
set_option linter.unusedVariables false

/-! bits -/
theorem wrap_u32_nat {n : Nat} (h : n < 4294967296) : IntKind.wrap .u32 (n : Int) = n := by rw [IntKind.wrap_u32]; omega
theorem wrap_u8_nat (n : Nat) : IntKind.wrap .u8 (n : Int) = ((n % 256 : Nat) : Int) := by rw [IntKind.wrap_u8]; omega
theorem xor32 {a b : Nat} (ha : a < 4294967296) (hb : b < 4294967296) : bits .xor .u32 (a : Int) (b : Int) = ((a ^^^ b : Nat) : Int) := by
  have hx : a ^^^ b < 2 ^ 32 := Nat.xor_lt_two_pow (n := 32) (by omega) (by omega)
  have ha' : a % 2 ^ IntKind.bits .u32 = a := Nat.mod_eq_of_lt ha
  have hb' : b % 2 ^ IntKind.bits .u32 = b := Nat.mod_eq_of_lt hb
  simp only [bits, BitVec.ofInt_natCast, BitVec.toNat_xor, BitVec.toNat_ofNat, ha', hb']
  exact wrap_u32_nat hx
theorem and32 {a b : Nat} (ha : a < 4294967296) (hb : b < 4294967296) : bits .and .u32 (a : Int) (b : Int) = ((a &&& b : Nat) : Int) :=
  (bits_nat .u32 32 (by decide) (fun n h0 h1 => by rw [IntKind.wrap_u32]; omega) a b (by omega) (by omega)).1
theorem or32 {a b : Nat} (ha : a < 4294967296) (hb : b < 4294967296) : bits .or .u32 (a : Int) (b : Int) = ((a ||| b : Nat) : Int) :=
  (bits_nat .u32 32 (by decide) (fun n h0 h1 => by rw [IntKind.wrap_u32]; omega) a b (by omega) (by omega)).2
theorem and1_32 {a : Nat} (ha : a < 4294967296) : bits .and .u32 (a : Int) 1 = ((a % 2 : Nat) : Int) := by
  have := and32 ha (b := 1) (by omega)
  rw [Nat.and_one_is_mod] at this
  exact this
theorem xorP {a : Nat} (ha : a < 4294967296) : bits .xor .u32 (a : Int) 3988292384 = ((a ^^^ 3988292384 : Nat) : Int) := xor32 ha (by decide)
theorem xorM {a : Nat} (ha : a < 4294967296) : bits .xor .u32 4294967295 (a : Int) = ((4294967295 ^^^ a : Nat) : Int) := xor32 (by decide) ha
theorem shr32 (a k : Nat) (hk : k ≤ 32) : shiftA .shr .u32 (a : Int) (k : Int) = some (.int .u32 ((a / 2 ^ k : Nat) : Int)) := by
  unfold shiftA
  rw [if_neg (by omega)]
  simp only [Int.toNat_natCast, IntKind.bits, Nat.min_eq_left hk]
  congr 2
  rw [Int.fdiv_eq_ediv_of_nonneg _ (by exact_mod_cast Nat.zero_le _)]
  exact_mod_cast rfl
theorem shr1 (a : Nat) : shiftA .shr .u32 (a : Int) 1 = some (.int .u32 ((a / 2 : Nat) : Int)) := shr32 a 1 (by omega)
theorem shr8 (a : Nat) : shiftA .shr .u32 (a : Int) 8 = some (.int .u32 ((a / 256 : Nat) : Int)) := shr32 a 8 (by omega)
theorem shr16 (a : Nat) : shiftA .shr .u32 (a : Int) 16 = some (.int .u32 ((a / 65536 : Nat) : Int)) := shr32 a 16 (by omega)
theorem shr24 (a : Nat) : shiftA .shr .u32 (a : Int) 24 = some (.int .u32 ((a / 16777216 : Nat) : Int)) := shr32 a 24 (by omega)

/-! the check -/
def crcBit (r : Nat) : Nat := if r % 2 = 1 then r / 2 ^^^ 3988292384 else r / 2
def crcBits : Nat → Nat → Nat
  | 0, r => r
  | k + 1, r => crcBits k (crcBit r)
def crcByte (r x : Nat) : Nat := crcBits 8 (r ^^^ x)
def crcReg (r : Nat) (l : List Nat) : Nat := l.foldl crcByte r
def crcSum (l : List Nat) : Nat := 4294967295 ^^^ crcReg 4294967295 l
theorem crcBit_lt {r : Nat} (h : r < 4294967296) : crcBit r < 4294967296 := by
  unfold crcBit
  split
  · exact Nat.xor_lt_two_pow (n := 32) (by omega) (by omega)
  · omega
theorem crcBits_lt : ∀ (k : Nat) {r : Nat}, r < 4294967296 → crcBits k r < 4294967296
  | 0, _, h => h
  | k + 1, _, h => crcBits_lt k (crcBit_lt h)
theorem crcByte_lt {r x : Nat} (h : r < 4294967296) (hx : x < 256) : crcByte r x < 4294967296 := crcBits_lt 8 (Nat.xor_lt_two_pow (n := 32) (by omega) (by omega))
theorem crcReg_lt : ∀ {l : List Nat} {r : Nat}, IsBy l → r < 4294967296 → crcReg r l < 4294967296
  | [], _, _, h => h
  | x :: l, r, hl, h => crcReg_lt (l := l) (fun y hy => hl y (by simp [hy])) (crcByte_lt h (hl x (by simp)))
theorem crcSum_lt {l : List Nat} (hl : IsBy l) : crcSum l < 4294967296 := Nat.xor_lt_two_pow (n := 32) (by omega) (crcReg_lt hl (by omega))
theorem take_snoc {α : Type} {L : List α} {j : Nat} {x : α} (h : L[j]? = some x) : L.take (j + 1) = L.take j ++ [x] := by rw [List.take_add_one, h]; rfl
theorem foldl_snoc {α β : Type} (g : β → α → β) (b : β) {L : List α} {j : Nat} {x : α} (h : L[j]? = some x) : (L.take (j + 1)).foldl g b = g ((L.take j).foldl g b) x := by
  rw [take_snoc h, List.foldl_append]
  rfl
theorem IsBy.take {l : List Nat} (h : IsBy l) (n : Nat) : IsBy (l.take n) := fun x hx => h x (List.mem_of_mem_take hx)
theorem IsBy.drop {l : List Nat} (h : IsBy l) (n : Nat) : IsBy (l.drop n) := fun x hx => h x (List.mem_of_mem_drop hx)
theorem IsBy.append {l m : List Nat} (h : IsBy l) (h' : IsBy m) : IsBy (l ++ m) := fun x hx => by rcases List.mem_append.1 hx with q | q; exact h x q; exact h' x q

theorem enter59 (cargs : Array Value) (w : World) : (callFunc 59 cargs).run Try.prog w = .ok (.enter 59 cargs) w := by kernel_rfl
theorem call59 {S : St} {v : Value} {l : List Nat} (hv : SlB S v l) (hl : IsBy l) (hln : l.length ≤ 9223372036854775806) (r : Nat) (hr : r < 4294967296) :
    ACalls Try.prog 59 [.int .u32 r, v] S (fun x S' => S' = S ∧ x = .int .u32 ((crcReg r l : Nat) : Int)) := by
  refine ACalls.ofK tok enter59 Try.func59 rfl (m := 30) rfl (by simp) (rs := [.tmp 4]) rfl fun hc ha => ?_
  clear ha
  refine AWp.seq_region tok fun K hK => ?_
  simp -implicitDefEqProofs only [vcT, wantedA, kp, kp2, kpS, kr, k1, k2, kL, kLP, kFn, kFn2, kSl, kSl2, kSl3, kC2, kP0, kP1, ev, evs, evParts, evO, Nat.reduceLT, Nat.reduceEqDiff, reduceIte, fr0, okConst, okc, appendA, cellsA, boxA, allocA, storeA, loadA, fieldA, indexA, fieldV, indexV, partA, extractA, nilA, binA, intBin, unA, lenA, isAggD, isConst, Nat.reduceAdd, Nat.reduceMul, Nat.reduceLeDiff, Nat.reduceSub, Nat.reduceBEq, splice, reduceCtorEq, Int.reduceEq, Int.reduceLT, Int.reduceLE, Int.reduceNeg, Int.reduceBEq, String.reduceEq, eqFlat, tf, aOpI]
  refine hK _ _ ?_
  clear hK
  refine AWp.seqK fun K0 hK0 => ?_
  refine AWp.seq_region tok fun K hK => ?_
  simp -implicitDefEqProofs only [vcT, wantedA, kp, kp2, kpS, kr, k1, k2, kL, kLP, kFn, kFn2, kSl, kSl2, kSl3, kC2, kP0, kP1, ev, evs, evParts, evO, Nat.reduceLT, Nat.reduceEqDiff, reduceIte, fr0, okConst, okc, appendA, cellsA, boxA, allocA, storeA, loadA, fieldA, indexA, fieldV, indexV, partA, extractA, nilA, binA, intBin, unA, isAggD, isConst, Nat.reduceAdd, Nat.reduceMul, Nat.reduceLeDiff, Nat.reduceSub, Nat.reduceBEq, splice, reduceCtorEq, Int.reduceEq, Int.reduceLT, Int.reduceLE, Int.reduceNeg, Int.reduceBEq, String.reduceEq, eqFlat, tf, aOpI, hv.len]
  refine hK _ _ ?_
  clear hK
  refine AWp.block ?_
  refine AWp.loopW (fun q f S1 => ∃ (j : Nat), q + j = l.length ∧ f = frL [(0, .int .u32 ((crcReg r (l.take j) : Nat) : Int)), (7, v), (8, .int .i64 l.length), (9, .int .i64 j)] ∧ S = S1) l.length
    ⟨_, _, Wk.frame ?_, 0, rfl, rfl, rfl⟩ ?_
  · simp only [List.forall_mem_cons, vcT, wantedA, kp, kp2, kpS, kr, k1, k2, kL, kLP, kFn, kFn2, kSl, kSl2, kSl3, kC2, kP0, kP1, ev, evs, evParts, evO, Nat.reduceLT, Nat.reduceEqDiff, reduceIte, fr0, okConst, okc, appendA, cellsA, boxA, allocA, storeA, loadA, fieldA, indexA, fieldV, indexV, partA, extractA, nilA, binA, intBin, unA, lenA, isAggD, isConst, Nat.reduceAdd, Nat.reduceMul, Nat.reduceLeDiff, Nat.reduceSub, Nat.reduceBEq, splice, reduceCtorEq, Int.reduceEq, Int.reduceLT, Int.reduceLE, Int.reduceNeg, Int.reduceBEq, String.reduceEq, eqFlat, tf, aOpI]
    simp [crcReg]
  rintro q f S1 ⟨j, hqj, rfl, rfl⟩
  refine AWp.seq_region tok fun K hK => ?_
  simp -implicitDefEqProofs only [vcT, wantedA, kp, kp2, kpS, kr, k1, k2, kL, kLP, kFn, kFn2, kSl, kSl2, kSl3, kC2, kP0, kP1, ev, evs, evParts, evO, Nat.reduceLT, Nat.reduceEqDiff, reduceIte, fr0, okConst, okc, appendA, cellsA, boxA, allocA, storeA, loadA, fieldA, indexA, fieldV, indexV, partA, extractA, nilA, binA, intBin, unA, lenA, isAggD, isConst, Nat.reduceAdd, Nat.reduceMul, Nat.reduceLeDiff, Nat.reduceSub, Nat.reduceBEq, splice, reduceCtorEq, Int.reduceEq, Int.reduceLT, Int.reduceLE, Int.reduceNeg, Int.reduceBEq, String.reduceEq, eqFlat, tf, aOpI, frL_cons]
  refine hK _ _ ?_
  clear hK
  refine AWp.seqK fun K1 hK1 => ?_
  refine AWp.condP ((j : Int) < (l.length : Int)) (by simp only [vcT, wantedA, kp, kp2, kpS, kr, k1, k2, kL, kLP, kFn, kFn2, kSl, kSl2, kSl3, kC2, kP0, kP1, ev, evs, evParts, evO, Nat.reduceLT, Nat.reduceEqDiff, reduceIte, fr0, okConst, okc, appendA, cellsA, boxA, allocA, storeA, loadA, fieldA, indexA, fieldV, indexV, partA, extractA, nilA, binA, intBin, unA, lenA, isAggD, isConst, Nat.reduceAdd, Nat.reduceMul, Nat.reduceLeDiff, Nat.reduceSub, Nat.reduceBEq, splice, reduceCtorEq, Int.reduceEq, Int.reduceLT, Int.reduceLE, Int.reduceNeg, Int.reduceBEq, String.reduceEq, eqFlat, tf, aOpI]) (fun h => ?_) (fun h => ?_)
  rotate_left
  · refine AWp.exit ?_
    simp only [ThenA, BlockA, if_true]
    refine hK0 _ _ ?_
    obtain rfl : j = l.length := by omega
    rw [List.take_length]
    refine AWp.seq_region tok fun K hK => ?_
    simp -implicitDefEqProofs only [vcT, wantedA, kp, kp2, kpS, kr, k1, k2, kL, kLP, kFn, kFn2, kSl, kSl2, kSl3, kC2, kP0, kP1, ev, evs, evParts, evO, Nat.reduceLT, Nat.reduceEqDiff, reduceIte, fr0, okConst, okc, appendA, cellsA, boxA, allocA, storeA, loadA, fieldA, indexA, fieldV, indexV, partA, extractA, nilA, binA, intBin, unA, lenA, isAggD, isConst, Nat.reduceAdd, Nat.reduceMul, Nat.reduceLeDiff, Nat.reduceSub, Nat.reduceBEq, splice, reduceCtorEq, Int.reduceEq, Int.reduceLT, Int.reduceLE, Int.reduceNeg, Int.reduceBEq, String.reduceEq, eqFlat, tf, aOpI, frL_cons]
    refine hK _ _ ?_
    clear hK
    refine AWp.ret ?_
    simp -implicitDefEqProofs only [vcT, wantedA, kp, kp2, kpS, kr, k1, k2, kL, kLP, kFn, kFn2, kSl, kSl2, kSl3, kC2, kP0, kP1, ev, evs, evParts, evO, Nat.reduceLT, Nat.reduceEqDiff, reduceIte, fr0, okConst, okc, appendA, cellsA, boxA, allocA, storeA, loadA, fieldA, indexA, fieldV, indexV, partA, extractA, nilA, binA, intBin, unA, lenA, isAggD, isConst, Nat.reduceAdd, Nat.reduceMul, Nat.reduceLeDiff, Nat.reduceSub, Nat.reduceBEq, splice, reduceCtorEq, Int.reduceEq, Int.reduceLT, Int.reduceLE, Int.reduceNeg, Int.reduceBEq, String.reduceEq, eqFlat, tf, aOpI, ThenA, BlockA, EndA, ressA, resA, wrapA, frL_cons]
    exact ⟨Keeps.refl _, .const _ rfl⟩
  refine AWp.skip ?_
  refine hK1 _ _ ?_
  clear hK1
  obtain ⟨x, hx⟩ : ∃ x, l[j]? = some x := ⟨_, List.getElem?_eq_getElem (by omega)⟩
  obtain ⟨p, hp1, hp2⟩ := hv.idx hx
  have hp3 := hp2 _ (Keeps.refl _)
  have hx256 := hl x (List.mem_of_getElem? hx)
  have w1 : IntKind.wrap .i64 ((j : Int) + 1) = ((j + 1 : Nat) : Int) := by rw [IntKind.wrap_i64]; omega
  have hreg : crcReg r (l.take (j + 1)) = crcByte (crcReg r (l.take j)) x := foldl_snoc crcByte r hx
  have hrl : crcReg r (l.take j) < 4294967296 := crcReg_lt (hl.take j) hr
  have w2 : IntKind.wrap .u32 (x : Int) = x := wrap_u32_nat (by omega)
  have w3 := xor32 hrl (by omega : x < 4294967296)
  generalize crcReg r (l.take j) = r0 at *
  have hr0 : r0 ^^^ x < 4294967296 := Nat.xor_lt_two_pow (n := 32) (by omega) (by omega)
  refine AWp.seqK fun K1 hK1 => ?_
  refine AWp.block ?_
  refine AWp.seq_region tok fun K hK => ?_
  simp -implicitDefEqProofs only [vcT, wantedA, kp, kp2, kpS, kr, k1, k2, kL, kLP, kFn, kFn2, kSl, kSl2, kSl3, kC2, kP0, kP1, ev, evs, evParts, evO, Nat.reduceLT, Nat.reduceEqDiff, reduceIte, fr0, okConst, okc, appendA, cellsA, boxA, allocA, storeA, fieldA, fieldV, indexV, partA, extractA, nilA, binA, intBin, unA, lenA, isAggD, isConst, Nat.reduceAdd, Nat.reduceMul, Nat.reduceLeDiff, Nat.reduceSub, Nat.reduceBEq, splice, reduceCtorEq, Int.reduceEq, Int.reduceLT, Int.reduceLE, Int.reduceNeg, Int.reduceBEq, String.reduceEq, eqFlat, tf, aOpI, frL_cons, hp1, hp3]
  refine hK _ _ ?_
  clear hK
  refine AWp.seq_region tok fun K hK => ?_
  simp -implicitDefEqProofs only [vcT, wantedA, kp, kp2, kpS, kr, k1, k2, kL, kLP, kFn, kFn2, kSl, kSl2, kSl3, kC2, kP0, kP1, ev, evs, evParts, evO, Nat.reduceLT, Nat.reduceEqDiff, reduceIte, fr0, okConst, okc, appendA, cellsA, boxA, allocA, storeA, loadA, fieldA, indexA, fieldV, indexV, partA, extractA, nilA, binA, intBin, unA, lenA, isAggD, isConst, Nat.reduceAdd, Nat.reduceMul, Nat.reduceLeDiff, Nat.reduceSub, Nat.reduceBEq, splice, reduceCtorEq, Int.reduceEq, Int.reduceLT, Int.reduceLE, Int.reduceNeg, Int.reduceBEq, String.reduceEq, eqFlat, tf, aOpI, frL_cons, ty24, ty5, convA, w2, w3]
  refine hK _ _ ?_
  clear hK
  refine AWp.seq_region tok fun K hK => ?_
  simp -implicitDefEqProofs only [vcT, wantedA, kp, kp2, kpS, kr, k1, k2, kL, kLP, kFn, kFn2, kSl, kSl2, kSl3, kC2, kP0, kP1, ev, evs, evParts, evO, Nat.reduceLT, Nat.reduceEqDiff, reduceIte, fr0, okConst, okc, appendA, cellsA, boxA, allocA, storeA, loadA, fieldA, indexA, fieldV, indexV, partA, extractA, nilA, binA, intBin, unA, lenA, isAggD, isConst, Nat.reduceAdd, Nat.reduceMul, Nat.reduceLeDiff, Nat.reduceSub, Nat.reduceBEq, splice, reduceCtorEq, Int.reduceEq, Int.reduceLT, Int.reduceLE, Int.reduceNeg, Int.reduceBEq, String.reduceEq, eqFlat, tf, aOpI, frL_cons]
  refine hK _ _ ?_
  clear hK
  refine AWp.block ?_
  refine AWp.loopW (fun qq f S1 => ∃ (i r1 : Nat), qq + i = 8 ∧ r1 < 4294967296 ∧ crcBits qq r1 = crcReg r (l.take (j + 1)) ∧ f = frL [(0, .int .u32 (r1 : Int)), (7, v), (8, .int .i64 l.length), (9, .int .i64 j), (17, .int .i64 i)] ∧ S = S1) 8
    ⟨_, _, Wk.frame ?_, 0, r0 ^^^ x, rfl, hr0, hreg.symm, rfl, rfl⟩ ?_
  · simp only [List.forall_mem_cons, vcT, wantedA, kp, kp2, kpS, kr, k1, k2, kL, kLP, kFn, kFn2, kSl, kSl2, kSl3, kC2, kP0, kP1, ev, evs, evParts, evO, Nat.reduceLT, Nat.reduceEqDiff, reduceIte, fr0, okConst, okc, appendA, cellsA, boxA, allocA, storeA, loadA, fieldA, indexA, fieldV, indexV, partA, extractA, nilA, binA, intBin, unA, lenA, isAggD, isConst, Nat.reduceAdd, Nat.reduceMul, Nat.reduceLeDiff, Nat.reduceSub, Nat.reduceBEq, splice, reduceCtorEq, Int.reduceEq, Int.reduceLT, Int.reduceLE, Int.reduceNeg, Int.reduceBEq, String.reduceEq, eqFlat, tf, aOpI, frL_cons]
    simp
  rintro qq f S1 ⟨i, r1, hqi, hr1, hb, rfl, rfl⟩
  refine AWp.seq_region tok fun K hK => ?_
  simp -implicitDefEqProofs only [vcT, wantedA, kp, kp2, kpS, kr, k1, k2, kL, kLP, kFn, kFn2, kSl, kSl2, kSl3, kC2, kP0, kP1, ev, evs, evParts, evO, Nat.reduceLT, Nat.reduceEqDiff, reduceIte, fr0, okConst, okc, appendA, cellsA, boxA, allocA, storeA, loadA, fieldA, indexA, fieldV, indexV, partA, extractA, nilA, binA, intBin, unA, lenA, isAggD, isConst, Nat.reduceAdd, Nat.reduceMul, Nat.reduceLeDiff, Nat.reduceSub, Nat.reduceBEq, splice, reduceCtorEq, Int.reduceEq, Int.reduceLT, Int.reduceLE, Int.reduceNeg, Int.reduceBEq, String.reduceEq, eqFlat, tf, aOpI, frL_cons]
  refine hK _ _ ?_
  clear hK
  refine AWp.seqK fun K2 hK2 => ?_
  refine AWp.condP ((i : Int) < 8) (by simp only [vcT, wantedA, kp, kp2, kpS, kr, k1, k2, kL, kLP, kFn, kFn2, kSl, kSl2, kSl3, kC2, kP0, kP1, ev, evs, evParts, evO, Nat.reduceLT, Nat.reduceEqDiff, reduceIte, fr0, okConst, okc, appendA, cellsA, boxA, allocA, storeA, loadA, fieldA, indexA, fieldV, indexV, partA, extractA, nilA, binA, intBin, unA, lenA, isAggD, isConst, Nat.reduceAdd, Nat.reduceMul, Nat.reduceLeDiff, Nat.reduceSub, Nat.reduceBEq, splice, reduceCtorEq, Int.reduceEq, Int.reduceLT, Int.reduceLE, Int.reduceNeg, Int.reduceBEq, String.reduceEq, eqFlat, tf, aOpI]) (fun h2 => ?_) (fun h2 => ?_)
  rotate_left
  · refine AWp.exit ?_
    simp only [ThenA, BlockA, if_true]
    refine hK1 _ _ ?_
    obtain rfl : qq = 0 := by omega
    have hb' : r1 = crcReg r (l.take (j + 1)) := hb
    refine AWp.regionK tok fun K hK => ?_
    simp -implicitDefEqProofs only [vcT, wantedA, kp, kp2, kpS, kr, k1, k2, kL, kLP, kFn, kFn2, kSl, kSl2, kSl3, kC2, kP0, kP1, ev, evs, evParts, evO, Nat.reduceLT, Nat.reduceEqDiff, reduceIte, fr0, okConst, okc, appendA, cellsA, boxA, allocA, storeA, loadA, fieldA, indexA, fieldV, indexV, partA, extractA, nilA, binA, intBin, unA, lenA, isAggD, isConst, Nat.reduceAdd, Nat.reduceMul, Nat.reduceLeDiff, Nat.reduceSub, Nat.reduceBEq, splice, reduceCtorEq, Int.reduceEq, Int.reduceLT, Int.reduceLE, Int.reduceNeg, Int.reduceBEq, String.reduceEq, eqFlat, tf, aOpI, frL_cons, w1]
    refine hK _ _ ?_
    refine ⟨q - 1, _, _, by omega, Wk.frame (by simp only [List.forall_mem_cons, vcT, wantedA, kp, kp2, kpS, kr, k1, k2, kL, kLP, kFn, kFn2, kSl, kSl2, kSl3, kC2, kP0, kP1, ev, evs, evParts, evO, Nat.reduceLT, Nat.reduceEqDiff, reduceIte, fr0, okConst, okc, appendA, cellsA, boxA, allocA, storeA, loadA, fieldA, indexA, fieldV, indexV, partA, extractA, nilA, binA, intBin, unA, lenA, isAggD, isConst, Nat.reduceAdd, Nat.reduceMul, Nat.reduceLeDiff, Nat.reduceSub, Nat.reduceBEq, splice, reduceCtorEq, Int.reduceEq, Int.reduceLT, Int.reduceLE, Int.reduceNeg, Int.reduceBEq, String.reduceEq, eqFlat, tf, aOpI, frL_cons, hb']; simp), j + 1, by omega, rfl, rfl⟩
  refine AWp.skip ?_
  refine hK2 _ _ ?_
  clear hK2
  clear hK1
  obtain ⟨k, rfl⟩ : ∃ k, qq = k + 1 := ⟨qq - 1, by omega⟩
  have w4 : IntKind.wrap .i64 ((i : Int) + 1) = ((i + 1 : Nat) : Int) := by rw [IntKind.wrap_i64]; omega
  refine AWp.seqK fun K2 hK2 => ?_
  refine AWp.block ?_
  have hgo : ∀ f : Fr, f 0 = .int .u32 ((crcBit r1 : Nat) : Int) → f 7 = v → f 8 = .int .i64 l.length → f 9 = .int .i64 j → f 17 = .int .i64 i → K2 f S := by
    intro f f0 f7 f8 f9 f17
    refine hK2 _ _ ?_
    refine AWp.regionK tok fun K hK => ?_
    simp -implicitDefEqProofs only [vcT, wantedA, kp, kp2, kpS, kr, k1, k2, kL, kLP, kFn, kFn2, kSl, kSl2, kSl3, kC2, kP0, kP1, ev, evs, evParts, evO, Nat.reduceLT, Nat.reduceEqDiff, reduceIte, fr0, okConst, okc, appendA, cellsA, boxA, allocA, storeA, loadA, fieldA, indexA, fieldV, indexV, partA, extractA, nilA, binA, intBin, unA, lenA, isAggD, isConst, Nat.reduceAdd, Nat.reduceMul, Nat.reduceLeDiff, Nat.reduceSub, Nat.reduceBEq, splice, reduceCtorEq, Int.reduceEq, Int.reduceLT, Int.reduceLE, Int.reduceNeg, Int.reduceBEq, String.reduceEq, eqFlat, tf, aOpI, f17, w4]
    refine hK _ _ ?_
    exact ⟨k, _, _, by omega, Wk.frame (by simp only [List.forall_mem_cons, vcT, wantedA, kp, kp2, kpS, kr, k1, k2, kL, kLP, kFn, kFn2, kSl, kSl2, kSl3, kC2, kP0, kP1, ev, evs, evParts, evO, Nat.reduceLT, Nat.reduceEqDiff, reduceIte, fr0, okConst, okc, appendA, cellsA, boxA, allocA, storeA, loadA, fieldA, indexA, fieldV, indexV, partA, extractA, nilA, binA, intBin, unA, lenA, isAggD, isConst, Nat.reduceAdd, Nat.reduceMul, Nat.reduceLeDiff, Nat.reduceSub, Nat.reduceBEq, splice, reduceCtorEq, Int.reduceEq, Int.reduceLT, Int.reduceLE, Int.reduceNeg, Int.reduceBEq, String.reduceEq, eqFlat, tf, aOpI, f0, f7, f8, f9]; simp), i + 1, crcBit r1, by omega, crcBit_lt hr1, hb, rfl, rfl⟩
  clear hK2
  have w5 := and1_32 hr1
  have w6 := xorP (by omega : r1 / 2 < 4294967296)
  refine AWp.seq_region tok fun K hK => ?_
  simp -implicitDefEqProofs only [vcT, wantedA, kp, kp2, kpS, kr, k1, k2, kL, kLP, kFn, kFn2, kSl, kSl2, kSl3, kC2, kP0, kP1, ev, evs, evParts, evO, Nat.reduceLT, Nat.reduceEqDiff, reduceIte, fr0, okConst, okc, appendA, cellsA, boxA, allocA, storeA, loadA, fieldA, indexA, fieldV, indexV, partA, extractA, nilA, binA, intBin, unA, lenA, isAggD, isConst, Nat.reduceAdd, Nat.reduceMul, Nat.reduceLeDiff, Nat.reduceSub, Nat.reduceBEq, splice, reduceCtorEq, Int.reduceEq, Int.reduceLT, Int.reduceLE, Int.reduceNeg, Int.reduceBEq, String.reduceEq, eqFlat, tf, aOpI, frL_cons, w5]
  refine hK _ _ ?_
  clear hK
  refine AWp.condB (((r1 % 2 : Nat) : Int) != 0) (by simp -implicitDefEqProofs only [vcT, wantedA, kp, kp2, kpS, kr, k1, k2, kL, kLP, kFn, kFn2, kSl, kSl2, kSl3, kC2, kP0, kP1, ev, evs, evParts, evO, Nat.reduceLT, Nat.reduceEqDiff, reduceIte, fr0, okConst, okc, appendA, cellsA, boxA, allocA, storeA, loadA, fieldA, indexA, fieldV, indexV, partA, extractA, nilA, binA, intBin, unA, lenA, isAggD, isConst, Nat.reduceAdd, Nat.reduceMul, Nat.reduceLeDiff, Nat.reduceSub, Nat.reduceBEq, splice, reduceCtorEq, Int.reduceEq, Int.reduceLT, Int.reduceLE, Int.reduceNeg, Int.reduceBEq, String.reduceEq, eqFlat, tf, aOpI]) (fun h9 => ?_) (fun h9 => ?_)
  · have h9' : r1 % 2 = 1 := by simp at h9; omega
    refine AWp.regionK tok fun K hK => ?_
    simp -implicitDefEqProofs only [vcT, wantedA, kp, kp2, kpS, kr, k1, k2, kL, kLP, kFn, kFn2, kSl, kSl2, kSl3, kC2, kP0, kP1, ev, evs, evParts, evO, Nat.reduceLT, Nat.reduceEqDiff, reduceIte, fr0, okConst, okc, appendA, cellsA, boxA, allocA, storeA, loadA, fieldA, indexA, fieldV, indexV, partA, extractA, nilA, binA, intBin, unA, lenA, isAggD, isConst, Nat.reduceAdd, Nat.reduceMul, Nat.reduceLeDiff, Nat.reduceSub, Nat.reduceBEq, splice, reduceCtorEq, Int.reduceEq, Int.reduceLT, Int.reduceLE, Int.reduceNeg, Int.reduceBEq, String.reduceEq, eqFlat, tf, aOpI, frL_cons, shr1, w6]
    refine hK _ _ (hgo _ ?_ ?_ ?_ ?_ ?_)
    · simp only [vcT, wantedA, kp, kp2, kpS, kr, k1, k2, kL, kLP, kFn, kFn2, kSl, kSl2, kSl3, kC2, kP0, kP1, ev, evs, evParts, evO, Nat.reduceLT, Nat.reduceEqDiff, reduceIte, fr0, okConst, okc, appendA, cellsA, boxA, allocA, storeA, loadA, fieldA, indexA, fieldV, indexV, partA, extractA, nilA, binA, intBin, unA, lenA, isAggD, isConst, Nat.reduceAdd, Nat.reduceMul, Nat.reduceLeDiff, Nat.reduceSub, Nat.reduceBEq, splice, reduceCtorEq, Int.reduceEq, Int.reduceLT, Int.reduceLE, Int.reduceNeg, Int.reduceBEq, String.reduceEq, eqFlat, tf, aOpI, crcBit, h9']
    all_goals simp only [vcT, wantedA, kp, kp2, kpS, kr, k1, k2, kL, kLP, kFn, kFn2, kSl, kSl2, kSl3, kC2, kP0, kP1, ev, evs, evParts, evO, Nat.reduceLT, Nat.reduceEqDiff, reduceIte, fr0, okConst, okc, appendA, cellsA, boxA, allocA, storeA, loadA, fieldA, indexA, fieldV, indexV, partA, extractA, nilA, binA, intBin, unA, lenA, isAggD, isConst, Nat.reduceAdd, Nat.reduceMul, Nat.reduceLeDiff, Nat.reduceSub, Nat.reduceBEq, splice, reduceCtorEq, Int.reduceEq, Int.reduceLT, Int.reduceLE, Int.reduceNeg, Int.reduceBEq, String.reduceEq, eqFlat, tf, aOpI, frL_cons]
  · have h9' : ¬ r1 % 2 = 1 := by simp at h9; omega
    refine AWp.regionK tok fun K hK => ?_
    simp -implicitDefEqProofs only [vcT, wantedA, kp, kp2, kpS, kr, k1, k2, kL, kLP, kFn, kFn2, kSl, kSl2, kSl3, kC2, kP0, kP1, ev, evs, evParts, evO, Nat.reduceLT, Nat.reduceEqDiff, reduceIte, fr0, okConst, okc, appendA, cellsA, boxA, allocA, storeA, loadA, fieldA, indexA, fieldV, indexV, partA, extractA, nilA, binA, intBin, unA, lenA, isAggD, isConst, Nat.reduceAdd, Nat.reduceMul, Nat.reduceLeDiff, Nat.reduceSub, Nat.reduceBEq, splice, reduceCtorEq, Int.reduceEq, Int.reduceLT, Int.reduceLE, Int.reduceNeg, Int.reduceBEq, String.reduceEq, eqFlat, tf, aOpI, frL_cons, shr1]
    refine hK _ _ (hgo _ ?_ ?_ ?_ ?_ ?_)
    · simp only [vcT, wantedA, kp, kp2, kpS, kr, k1, k2, kL, kLP, kFn, kFn2, kSl, kSl2, kSl3, kC2, kP0, kP1, ev, evs, evParts, evO, Nat.reduceLT, Nat.reduceEqDiff, reduceIte, fr0, okConst, okc, appendA, cellsA, boxA, allocA, storeA, loadA, fieldA, indexA, fieldV, indexV, partA, extractA, nilA, binA, intBin, unA, lenA, isAggD, isConst, Nat.reduceAdd, Nat.reduceMul, Nat.reduceLeDiff, Nat.reduceSub, Nat.reduceBEq, splice, reduceCtorEq, Int.reduceEq, Int.reduceLT, Int.reduceLE, Int.reduceNeg, Int.reduceBEq, String.reduceEq, eqFlat, tf, aOpI, crcBit, h9']
    all_goals simp only [vcT, wantedA, kp, kp2, kpS, kr, k1, k2, kL, kLP, kFn, kFn2, kSl, kSl2, kSl3, kC2, kP0, kP1, ev, evs, evParts, evO, Nat.reduceLT, Nat.reduceEqDiff, reduceIte, fr0, okConst, okc, appendA, cellsA, boxA, allocA, storeA, loadA, fieldA, indexA, fieldV, indexV, partA, extractA, nilA, binA, intBin, unA, lenA, isAggD, isConst, Nat.reduceAdd, Nat.reduceMul, Nat.reduceLeDiff, Nat.reduceSub, Nat.reduceBEq, splice, reduceCtorEq, Int.reduceEq, Int.reduceLT, Int.reduceLE, Int.reduceNeg, Int.reduceBEq, String.reduceEq, eqFlat, tf, aOpI, frL_cons]

theorem enter46 (cargs : Array Value) (w : World) : (callFunc 46 cargs).run Try.prog w = .ok (.enter 46 cargs) w := by kernel_rfl
theorem call46 {S : St} {v : Value} {l : List Nat} (hv : SlB S v l) (hl : IsBy l) (hln : l.length ≤ 9223372036854775806) :
    ACalls Try.prog 46 [v] S (fun x S' => S' = S ∧ x = .int .u32 ((crcSum l : Nat) : Int)) := by
  refine ACalls.ofK tok enter46 Try.func46 rfl (m := 6) rfl (by simp) (rs := [.tmp 2]) rfl fun hc ha => ?_
  clear ha
  refine AWp.seq_region tok fun K hK => ?_
  simp -implicitDefEqProofs only [vcT, wantedA, kp, kp2, kpS, kr, k1, k2, kL, kLP, kFn, kFn2, kSl, kSl2, kSl3, kC2, kP0, kP1, ev, evs, evParts, evO, Nat.reduceLT, Nat.reduceEqDiff, reduceIte, fr0, okConst, okc, appendA, cellsA, boxA, allocA, storeA, loadA, fieldA, indexA, fieldV, indexV, partA, extractA, nilA, binA, intBin, unA, lenA, isAggD, isConst, Nat.reduceAdd, Nat.reduceMul, Nat.reduceLeDiff, Nat.reduceSub, Nat.reduceBEq, splice, reduceCtorEq, Int.reduceEq, Int.reduceLT, Int.reduceLE, Int.reduceNeg, Int.reduceBEq, String.reduceEq, eqFlat, tf, aOpI]
  refine hK _ _ ?_
  clear hK
  refine AWp.seq_region tok fun K hK => ?_
  refine aList_cut 1 fun K1 hK1 => ?_
  simp -implicitDefEqProofs only [vcT, wantedA, kp, kp2, kpS, kr, k1, k2, kL, kLP, kFn, kFn2, kSl, kSl2, kSl3, kC2, kP0, kP1, ev, evs, evParts, evO, Nat.reduceLT, Nat.reduceEqDiff, reduceIte, fr0, okConst, okc, appendA, cellsA, boxA, allocA, storeA, loadA, fieldA, indexA, fieldV, indexV, partA, extractA, nilA, binA, intBin, unA, lenA, isAggD, isConst, Nat.reduceAdd, Nat.reduceMul, Nat.reduceLeDiff, Nat.reduceSub, Nat.reduceBEq, splice, reduceCtorEq, Int.reduceEq, Int.reduceLT, Int.reduceLE, Int.reduceNeg, Int.reduceBEq, String.reduceEq, eqFlat, tf, aOpI]
  refine hK1 _ _ ?_
  clear hK1
  refine aList_cut 1 fun K1 hK1 => ?_
  simp -implicitDefEqProofs only [vcT, wantedA, kp, kp2, kpS, kr, k1, k2, kL, kLP, kFn, kFn2, kSl, kSl2, kSl3, kC2, kP0, kP1, ev, evs, evParts, evO, Nat.reduceLT, Nat.reduceEqDiff, reduceIte, fr0, okConst, okc, appendA, cellsA, boxA, allocA, storeA, loadA, fieldA, indexA, fieldV, indexV, partA, extractA, nilA, binA, intBin, unA, lenA, isAggD, isConst, Nat.reduceAdd, Nat.reduceMul, Nat.reduceLeDiff, Nat.reduceSub, Nat.reduceBEq, splice, reduceCtorEq, Int.reduceEq, Int.reduceLT, Int.reduceLE, Int.reduceNeg, Int.reduceBEq, String.reduceEq, eqFlat, tf, aOpI, Array.toList_empty, List.drop_succ_cons, List.drop_zero]
  refine (call59 hv hl hln 4294967295 (by omega)).mono ?_
  rintro r S' ⟨rfl, rfl⟩
  refine hK1 _ _ ?_
  clear hK1
  have w := xorM (crcReg_lt hl (by omega : 4294967295 < 4294967296))
  have w2 : IntKind.max .u32 = 4294967295 := by decide
  have w3 : IntKind.signed .u32 = false := rfl
  simp -implicitDefEqProofs only [vcT, wantedA, kp, kp2, kpS, kr, k1, k2, kL, kLP, kFn, kFn2, kSl, kSl2, kSl3, kC2, kP0, kP1, ev, evs, evParts, evO, Nat.reduceLT, Nat.reduceEqDiff, reduceIte, fr0, okConst, okc, appendA, cellsA, boxA, allocA, storeA, loadA, fieldA, indexA, fieldV, indexV, partA, extractA, nilA, binA, intBin, unA, lenA, isAggD, isConst, Nat.reduceAdd, Nat.reduceMul, Nat.reduceLeDiff, Nat.reduceSub, Nat.reduceBEq, splice, reduceCtorEq, Int.reduceEq, Int.reduceLT, Int.reduceLE, Int.reduceNeg, Int.reduceBEq, String.reduceEq, eqFlat, tf, aOpI, List.drop_succ_cons, List.drop_zero, w, w2, w3]
  refine hK _ _ ?_
  clear hK
  refine AWp.ret ?_
  simp -implicitDefEqProofs only [vcT, wantedA, kp, kp2, kpS, kr, k1, k2, kL, kLP, kFn, kFn2, kSl, kSl2, kSl3, kC2, kP0, kP1, ev, evs, evParts, evO, Nat.reduceLT, Nat.reduceEqDiff, reduceIte, fr0, okConst, okc, appendA, cellsA, boxA, allocA, storeA, loadA, fieldA, indexA, fieldV, indexV, partA, extractA, nilA, binA, intBin, unA, lenA, isAggD, isConst, Nat.reduceAdd, Nat.reduceMul, Nat.reduceLeDiff, Nat.reduceSub, Nat.reduceBEq, splice, reduceCtorEq, Int.reduceEq, Int.reduceLT, Int.reduceLE, Int.reduceNeg, Int.reduceBEq, String.reduceEq, eqFlat, tf, aOpI, ThenA, BlockA, EndA, ressA, resA, wrapA]
  exact ⟨Keeps.refl _, .const _ rfl, rfl⟩
end Go.Proofs.Ytpgiiidnimbdgaa
