/- The law of frames read: walked; arguments opened. -/
import Derived.Test.YtpgiiidnimbdgaaAbF20
import Derived.Test.YtpgiiidnimbdgaaAbR
namespace Go.Proofs.Ytpgiiidnimbdgaa
open Go.Ab
set_option linter.unusedSimpArgs false
set_option linter.unusedVariables false
set_option maxRecDepth 4000

/-! readers stay sound -/
def OkE (r : Rd) : Prop := r.Ok ∧ ∀ a, r.err = some a → a ≤ 140737488355328
theorem OkE.more {r : Rd} (h : OkE r) (n : Nat) : OkE (r.moreR n) := by
  refine ⟨h.1.more n, fun a ha => ?_⟩
  unfold Rd.moreR at ha
  split at ha
  · have h1 : r.at_ = a := by simpa using ha
    have := h.1.le
    have := h.1.len
    omega
  · exact h.2 a ha
theorem OkE.take {r : Rd} (h : OkE r) (n : Nat) : OkE (r.takeR n) := by
  refine ⟨h.1.take n, ?_⟩
  unfold Rd.takeR
  split
  · exact h.2
  · exact (h.more n).2
theorem OkE.text {r : Rd} (h : OkE r) : OkE r.textR := by
  refine ⟨h.1.text, ?_⟩
  unfold Rd.textR
  split
  · exact h.2
  · split
    · exact (h.more _).2
    · exact (h.more _).2
theorem rdM_ok : ∀ (n : Nat) (r : Rd) (ms : List Msg), OkE r → OkE (rdM n r ms).2 ∧ (rdM n r ms).1.length ≤ ms.length + n
  | 0, r, ms, h => ⟨h, by simp [rdM]⟩
  | n + 1, r, ms, h => by
    unfold rdM
    split
    · have := rdM_ok n _ (ms ++ [⟨((r.takeV 1 : Nat) : Int), (r.takeR 1).textL⟩]) (h.take 1).text
      refine ⟨this.1, ?_⟩
      have h2 := this.2
      rw [List.length_append] at h2
      simp only [List.length_cons, List.length_nil] at h2
      omega
    · exact ⟨h, by dsimp only; omega⟩
theorem rdR_ok : ∀ (n : Nat) (r : Rd) (rs : List Rec), OkE r → OkE (rdR n r rs).2 ∧ (rdR n r rs).1.length ≤ rs.length + n
  | 0, r, rs, h => ⟨h, by simp [rdR]⟩
  | n + 1, r, rs, h => by
    unfold rdR
    split
    · have := rdR_ok n (rdRecR r) (rs ++ [rdRec r]) (((((h.take 4).take 1).take 1).take 1).take 1)
      refine ⟨this.1, ?_⟩
      have h2 := this.2
      rw [List.length_append] at h2
      simp only [List.length_cons, List.length_nil] at h2
      omega
    · exact ⟨h, by dsimp only; omega⟩
theorem openB_sub {l inn : List Nat} (h : openB l = some inn) : inn = l.take (l.length - 4) ∧ l = sealB inn := by
  unfold openB at h
  split at h
  · cases h
  · split at h
    · rename_i h2
      cases h
      exact ⟨rfl, h2.symm⟩
    · cases h
theorem decF_fine {l : List Nat} (hl : IsBy l) (hln : l.length ≤ 140737488355328) : FineE (decF l).2 ∧ (decF l).2.length ≤ 20 := by
  unfold decF
  split
  · refine ⟨fun x hx => ?_, by simp⟩
    simp only [List.mem_cons, List.not_mem_nil, or_false] at hx
    rcases hx with rfl | rfl <;> decide
  · rename_i inn hop
    obtain ⟨rfl, _⟩ := openB_sub hop
    have hlen : (l.take (l.length - 4)).length ≤ 140737488355328 := by simp; omega
    have hby := hl.take (l.length - 4)
    generalize l.take (l.length - 4) = inn at *
    have h0 : OkE ⟨inn, 0, none⟩ := ⟨⟨Nat.zero_le _, hby, hlen⟩, fun a ha => by cases ha⟩
    have h1 : OkE (rdHeadR ⟨inn, 0, none⟩) := ((h0.take 1).take 4).take 1
    have b1 := takeV_lt h1.1 (k := 1) (by omega)
    have h2 := rdM_ok ((rdHeadR ⟨inn, 0, none⟩).takeV 1) ((rdHeadR ⟨inn, 0, none⟩).takeR 1) [] (h1.take 1)
    have h3 : OkE (rdCmdR (rdMs (rdHeadR ⟨inn, 0, none⟩)).2) := (((h2.1.take 1).take 1).take 2).take 2
    have b3 := takeV_lt h3.1 (k := 1) (by omega)
    have h4 := rdR_ok ((rdCmdR (rdMs (rdHeadR ⟨inn, 0, none⟩)).2).takeV 1) ((rdCmdR (rdMs (rdHeadR ⟨inn, 0, none⟩)).2).takeR 1) [] (h3.take 1)
    have hr : OkE (decB inn).2 := h4.1
    have hm : (decB inn).1.ms.length ≤ 140737488355328 := by
      have : (decB inn).1.ms.length ≤ 0 + (rdHeadR ⟨inn, 0, none⟩).takeV 1 := h2.2
      omega
    have hs : (decB inn).1.rs.length ≤ 140737488355328 := by
      have : (decB inn).1.rs.length ≤ 0 + (rdCmdR (rdMs (rdHeadR ⟨inn, 0, none⟩)).2).takeV 1 := h4.2
      omega
    have hone := oneE_thenE (oneE_end hr.1 hr.2) (oneE_chkE hm hs)
    have hat := hr.1.le
    have hbl := hr.1.len
    unfold decE
    split
    · exact ⟨fun x hx => by simp at hx, by simp⟩
    · rename_i e es hes
      rw [hes] at hone
      rcases hone with h | ⟨c, a, h, q1, q2, q3, q4⟩
      · cases h
      · cases h
        refine ⟨fun x hx => ?_, by simp⟩
        simp only [List.mem_cons, List.not_mem_nil, or_false] at hx
        rcases hx with rfl | rfl
        · dsimp only; omega
        · dsimp only; omega
theorem frm_one {S : St} {f : Frm} {vm vr : Value} (h : FrAt S f vm vr) : (solid vm = true ∧ vm.cells = #[vm]) ∧ solid vr = true ∧ vr.cells = #[vr] := by
  constructor
  · obtain ⟨ds, _, h2, _⟩ := h.ms
    rcases h2.h with ⟨rfl, _⟩ | ⟨_, _, _, rfl, _⟩ <;> exact ⟨rfl, rfl⟩
  · rcases h.rs.h with ⟨rfl, _⟩ | ⟨_, _, _, rfl, _⟩ <;> exact ⟨rfl, rfl⟩

theorem enter3 (cargs : Array Value) (w : World) : (callFunc 3 cargs).run Try.prog w = .ok (.enter 3 cargs) w := by kernel_rfl
set_option maxHeartbeats 1000000 in
theorem call3 {S : St} {v : Value} {l : List Nat} (hv : SlB S v l) (hl : IsBy l) (hln : l.length ≤ 140737488355320) : ACalls Try.prog 3 [v] S (fun r S' => S' = S ∧ r = .bool true) := by
  refine ACalls.ofK tok enter3 Try.func3 rfl (m := 33) rfl (by simp) (rs := [.tmp 2]) rfl fun hc ha => ?_
  clear ha
  refine AWp.seq_region tok fun K hK => ?_
  simp -implicitDefEqProofs only [vcT, wantedA, kp, kp2, kpS, kr, k1, k2, kL, kLP, kFn, kFn2, kSl, kSl2, kSl3, kC2, kP0, kP1, ev, evs, evParts, evO, Nat.reduceLT, Nat.reduceEqDiff, reduceIte, fr0, okConst, okc, appendA, cellsA, boxA, allocA, storeA, loadA, fieldA, indexA, fieldV, indexV, partA, extractA, nilA, binA, intBin, unA, lenA, isAggD, isConst, Nat.reduceAdd, Nat.reduceMul, Nat.reduceLeDiff, Nat.reduceSub, Nat.reduceBEq, splice, reduceCtorEq, Int.reduceEq, Int.reduceLT, Int.reduceLE, Int.reduceNeg, Int.reduceBEq, String.reduceEq, eqFlat, tf, aOpI]
  refine hK _ _ ?_
  clear hK
  refine AWp.seqK fun K0 hK0 => ?_
  refine AWp.seq_region tok fun K hK => ?_
  refine aList_cut 1 fun K1 hK1 => ?_
  simp -implicitDefEqProofs only [vcT, wantedA, kp, kp2, kpS, kr, k1, k2, kL, kLP, kFn, kFn2, kSl, kSl2, kSl3, kC2, kP0, kP1, ev, evs, evParts, evO, Nat.reduceLT, Nat.reduceEqDiff, reduceIte, fr0, okConst, okc, appendA, cellsA, boxA, allocA, storeA, loadA, fieldA, indexA, fieldV, indexV, partA, extractA, nilA, binA, intBin, unA, lenA, isAggD, isConst, Nat.reduceAdd, Nat.reduceMul, Nat.reduceLeDiff, Nat.reduceSub, Nat.reduceBEq, splice, reduceCtorEq, Int.reduceEq, Int.reduceLT, Int.reduceLE, Int.reduceNeg, Int.reduceBEq, String.reduceEq, eqFlat, tf, aOpI, Array.toList_empty, List.drop_succ_cons, List.drop_zero]
  refine (call11 _).mono ?_
  rintro x S' ⟨rfl, rfl⟩
  refine hK1 _ _ ?_
  clear hK1
  simp -implicitDefEqProofs only [vcT, wantedA, kp, kp2, kpS, kr, k1, k2, kL, kLP, kFn, kFn2, kSl, kSl2, kSl3, kC2, kP0, kP1, ev, evs, evParts, evO, Nat.reduceLT, Nat.reduceEqDiff, reduceIte, fr0, okConst, okc, appendA, cellsA, boxA, allocA, storeA, loadA, fieldA, indexA, fieldV, indexV, partA, extractA, nilA, binA, intBin, unA, lenA, isAggD, isConst, Nat.reduceAdd, Nat.reduceMul, Nat.reduceLeDiff, Nat.reduceSub, Nat.reduceBEq, splice, reduceCtorEq, Int.reduceEq, Int.reduceLT, Int.reduceLE, Int.reduceNeg, Int.reduceBEq, String.reduceEq, eqFlat, tf, aOpI, List.drop_succ_cons, List.drop_zero, Bool.not_true]
  refine hK _ _ ?_
  clear hK
  refine AWp.condF (by simp -implicitDefEqProofs only [vcT, wantedA, kp, kp2, kpS, kr, k1, k2, kL, kLP, kFn, kFn2, kSl, kSl2, kSl3, kC2, kP0, kP1, ev, evs, evParts, evO, Nat.reduceLT, Nat.reduceEqDiff, reduceIte, fr0, okConst, okc, appendA, cellsA, boxA, allocA, storeA, loadA, fieldA, indexA, fieldV, indexV, partA, extractA, nilA, binA, intBin, unA, lenA, isAggD, isConst, Nat.reduceAdd, Nat.reduceMul, Nat.reduceLeDiff, Nat.reduceSub, Nat.reduceBEq, splice, reduceCtorEq, Int.reduceEq, Int.reduceLT, Int.reduceLE, Int.reduceNeg, Int.reduceBEq, String.reduceEq, eqFlat, tf, aOpI]) ?_
  refine AWp.skip ?_
  refine hK0 _ _ ?_
  clear hK0
  have hlnv := hv.len
  refine AWp.seqK fun K0 hK0 => ?_
  by_cases h5 : (l.length : Int) > 5000
  · refine AWp.seq_region tok fun K hK => ?_
    simp -implicitDefEqProofs only [vcT, wantedA, kp, kp2, kpS, kr, k1, k2, kL, kLP, kFn, kFn2, kSl, kSl2, kSl3, kC2, kP0, kP1, ev, evs, evParts, evO, Nat.reduceLT, Nat.reduceEqDiff, reduceIte, fr0, okConst, okc, appendA, cellsA, boxA, allocA, storeA, loadA, fieldA, indexA, fieldV, indexV, partA, extractA, nilA, binA, intBin, unA, isAggD, isConst, Nat.reduceAdd, Nat.reduceMul, Nat.reduceLeDiff, Nat.reduceSub, Nat.reduceBEq, splice, reduceCtorEq, Int.reduceEq, Int.reduceLT, Int.reduceLE, Int.reduceNeg, Int.reduceBEq, String.reduceEq, eqFlat, tf, aOpI, hlnv, h5]
    refine hK _ _ ?_
    clear hK
    refine AWp.condT (by simp -implicitDefEqProofs only [vcT, wantedA, kp, kp2, kpS, kr, k1, k2, kL, kLP, kFn, kFn2, kSl, kSl2, kSl3, kC2, kP0, kP1, ev, evs, evParts, evO, Nat.reduceLT, Nat.reduceEqDiff, reduceIte, fr0, okConst, okc, appendA, cellsA, boxA, allocA, storeA, loadA, fieldA, indexA, fieldV, indexV, partA, extractA, nilA, binA, intBin, unA, lenA, isAggD, isConst, Nat.reduceAdd, Nat.reduceMul, Nat.reduceLeDiff, Nat.reduceSub, Nat.reduceBEq, splice, reduceCtorEq, Int.reduceEq, Int.reduceLT, Int.reduceLE, Int.reduceNeg, Int.reduceBEq, String.reduceEq, eqFlat, tf, aOpI]) ?_
    refine AWp.seq_region tok fun K hK => ?_
    simp -implicitDefEqProofs only [vcT, wantedA, kp, kp2, kpS, kr, k1, k2, kL, kLP, kFn, kFn2, kSl, kSl2, kSl3, kC2, kP0, kP1, ev, evs, evParts, evO, Nat.reduceLT, Nat.reduceEqDiff, reduceIte, fr0, okConst, okc, appendA, cellsA, boxA, allocA, storeA, loadA, fieldA, indexA, fieldV, indexV, partA, extractA, nilA, binA, intBin, unA, lenA, isAggD, isConst, Nat.reduceAdd, Nat.reduceMul, Nat.reduceLeDiff, Nat.reduceSub, Nat.reduceBEq, splice, reduceCtorEq, Int.reduceEq, Int.reduceLT, Int.reduceLE, Int.reduceNeg, Int.reduceBEq, String.reduceEq, eqFlat, tf, aOpI]
    refine hK _ _ ?_
    clear hK
    refine AWp.ret ?_
    simp -implicitDefEqProofs only [vcT, wantedA, kp, kp2, kpS, kr, k1, k2, kL, kLP, kFn, kFn2, kSl, kSl2, kSl3, kC2, kP0, kP1, ev, evs, evParts, evO, Nat.reduceLT, Nat.reduceEqDiff, reduceIte, fr0, okConst, okc, appendA, cellsA, boxA, allocA, storeA, loadA, fieldA, indexA, fieldV, indexV, partA, extractA, nilA, binA, intBin, unA, lenA, isAggD, isConst, Nat.reduceAdd, Nat.reduceMul, Nat.reduceLeDiff, Nat.reduceSub, Nat.reduceBEq, splice, reduceCtorEq, Int.reduceEq, Int.reduceLT, Int.reduceLE, Int.reduceNeg, Int.reduceBEq, String.reduceEq, eqFlat, tf, aOpI, ThenA, BlockA, EndA, ressA, resA, wrapA]
    exact ⟨Keeps.refl _, .const _ rfl⟩
  refine AWp.seq_region tok fun K hK => ?_
  simp -implicitDefEqProofs only [vcT, wantedA, kp, kp2, kpS, kr, k1, k2, kL, kLP, kFn, kFn2, kSl, kSl2, kSl3, kC2, kP0, kP1, ev, evs, evParts, evO, Nat.reduceLT, Nat.reduceEqDiff, reduceIte, fr0, okConst, okc, appendA, cellsA, boxA, allocA, storeA, loadA, fieldA, indexA, fieldV, indexV, partA, extractA, nilA, binA, intBin, unA, isAggD, isConst, Nat.reduceAdd, Nat.reduceMul, Nat.reduceLeDiff, Nat.reduceSub, Nat.reduceBEq, splice, reduceCtorEq, Int.reduceEq, Int.reduceLT, Int.reduceLE, Int.reduceNeg, Int.reduceBEq, String.reduceEq, eqFlat, tf, aOpI, hlnv, h5]
  refine hK _ _ ?_
  clear hK
  refine AWp.condF (by simp -implicitDefEqProofs only [vcT, wantedA, kp, kp2, kpS, kr, k1, k2, kL, kLP, kFn, kFn2, kSl, kSl2, kSl3, kC2, kP0, kP1, ev, evs, evParts, evO, Nat.reduceLT, Nat.reduceEqDiff, reduceIte, fr0, okConst, okc, appendA, cellsA, boxA, allocA, storeA, loadA, fieldA, indexA, fieldV, indexV, partA, extractA, nilA, binA, intBin, unA, lenA, isAggD, isConst, Nat.reduceAdd, Nat.reduceMul, Nat.reduceLeDiff, Nat.reduceSub, Nat.reduceBEq, splice, reduceCtorEq, Int.reduceEq, Int.reduceLT, Int.reduceLE, Int.reduceNeg, Int.reduceBEq, String.reduceEq, eqFlat, tf, aOpI]) ?_
  refine AWp.skip ?_
  refine hK0 _ _ ?_
  clear hK0
  have hc1 : ∀ R, cellsA (S' ++ R) 1 v = some (l.length, bys l) := fun R => (hv.append R).cells
  have z1 : l.length ≤ 140737488355328 := by omega
  have z2 : l.length ≤ 9223372036854775807 := by omega
  refine AWp.seq_region tok fun K hK => ?_
  refine aList_cut 3 fun K1 hK1 => ?_
  simp -implicitDefEqProofs only [vcT, wantedA, kp, kp2, kpS, kr, k1, k2, kL, kLP, kFn, kFn2, kSl, kSl2, kSl3, kC2, kP0, kP1, ev, evs, evParts, evO, Nat.reduceLT, Nat.reduceEqDiff, reduceIte, fr0, okConst, okc, appendA, boxA, allocA, storeA, loadA, fieldA, indexA, fieldV, indexV, partA, extractA, nilA, binA, intBin, unA, lenA, isAggD, isConst, Nat.reduceAdd, Nat.reduceMul, Nat.reduceLeDiff, Nat.reduceSub, Nat.reduceBEq, splice, reduceCtorEq, Int.reduceEq, Int.reduceLT, Int.reduceLE, Int.reduceNeg, Int.reduceBEq, String.reduceEq, eqFlat, tf, aOpI, bs22_0, ty22, ty5, hc1, z1, z2, Nat.mul_one]
  refine hK1 _ _ ?_
  clear hK1
  have hu : OwB (S' ++ [AObj.dead, .row 5 true (bys l)]) 0 (.slice (some ⟨S'.length + 1, 0, none⟩) l.length 1) l := ⟨S'.length + 1, Nat.zero_le _, rfl, by simp⟩
  have hkp : Keeps S' (S' ++ [AObj.dead, .row 5 true (bys l)]) := Keeps.append _ _
  refine aList_cut 1 fun K1 hK1 => ?_
  simp -implicitDefEqProofs only [vcT, wantedA, kp, kp2, kpS, kr, k1, k2, kL, kLP, kFn, kFn2, kSl, kSl2, kSl3, kC2, kP0, kP1, ev, evs, evParts, evO, Nat.reduceLT, Nat.reduceEqDiff, reduceIte, fr0, okConst, okc, appendA, cellsA, boxA, allocA, storeA, loadA, fieldA, indexA, fieldV, indexV, partA, extractA, nilA, binA, intBin, unA, lenA, isAggD, isConst, Nat.reduceAdd, Nat.reduceMul, Nat.reduceLeDiff, Nat.reduceSub, Nat.reduceBEq, splice, reduceCtorEq, Int.reduceEq, Int.reduceLT, Int.reduceLE, Int.reduceNeg, Int.reduceBEq, String.reduceEq, eqFlat, tf, aOpI, Array.toList_empty, List.drop_succ_cons, List.drop_zero]
  refine (call12 hu.slB hl (by omega)).mono ?_
  rintro x S2 ⟨hk2, vm, vr, vE, rfl, hfa, hec⟩
  replace hk2 := hkp.trans hk2
  obtain ⟨⟨o1, o2⟩, o3, o4⟩ := frm_one hfa
  simp only [frmV]
  refine hK1 _ _ ?_
  clear hK1
  simp -implicitDefEqProofs only [vcT, wantedA, kp, kp2, kpS, kr, k1, k2, kL, kLP, kFn, kFn2, kSl, kSl2, kSl3, kC2, kP0, kP1, ev, evs, evParts, evO, Nat.reduceLT, Nat.reduceEqDiff, reduceIte, fr0, okConst, okc, appendA, cellsA, boxA, allocA, storeA, loadA, fieldA, indexA, fieldV, indexV, partA, extractA, nilA, binA, intBin, unA, lenA, isAggD, isConst, Nat.reduceAdd, Nat.reduceMul, Nat.reduceLeDiff, Nat.reduceSub, Nat.reduceBEq, splice, reduceCtorEq, Int.reduceEq, Int.reduceLT, Int.reduceLE, Int.reduceNeg, Int.reduceBEq, String.reduceEq, eqFlat, tf, aOpI, ty34, o1, o2, o3, o4, List.drop_succ_cons, List.drop_zero]
  refine hK _ _ ?_
  clear hK
  have hfa2 := hfa.keeps (Keeps.append S2 [AObj.row 34 true (frmC (decF l).1 vm vr)])
  have hec2 := hec.keeps (Keeps.append S2 [AObj.row 34 true (frmC (decF l).1 vm vr)])
  have hk3 := hk2.more [AObj.row 34 true (frmC (decF l).1 vm vr)]
  have hrow3 : (S2 ++ [AObj.row 34 true (frmC (decF l).1 vm vr)])[S2.length]? = some (.row 34 true (frmC (decF l).1 vm vr)) := by simp
  simp only [frmC] at hfa2 hec2 hk3 hrow3
  generalize (S2 ++ [AObj.row 34 true [Value.int IntKind.u8 (decF l).1.snd, .int .u32 (decF l).1.rnd, .int .u8 (decF l).1.mem, vm, .int .u8 (decF l).1.c.kind, .int .u8 (decF l).1.c.key, .int .u16 (decF l).1.c.val, .int .u16 (decF l).1.c.old, vr]]) = S3 at *
  refine AWp.seq_region tok fun K hK => ?_
  refine aList_cut 1 fun K1 hK1 => ?_
  simp -implicitDefEqProofs only [vcT, wantedA, kp, kp2, kpS, kr, k1, k2, kL, kLP, kFn, kFn2, kSl, kSl2, kSl3, kC2, kP0, kP1, ev, evs, evParts, evO, Nat.reduceLT, Nat.reduceEqDiff, reduceIte, fr0, okConst, okc, appendA, cellsA, boxA, allocA, storeA, loadA, fieldA, indexA, fieldV, indexV, partA, extractA, nilA, binA, intBin, unA, lenA, isAggD, isConst, Nat.reduceAdd, Nat.reduceMul, Nat.reduceLeDiff, Nat.reduceSub, Nat.reduceBEq, splice, reduceCtorEq, Int.reduceEq, Int.reduceLT, Int.reduceLE, Int.reduceNeg, Int.reduceBEq, String.reduceEq, eqFlat, tf, aOpI]
  refine hK1 _ _ ?_
  clear hK1
  refine aList_cut 1 fun K1 hK1 => ?_
  simp -implicitDefEqProofs only [vcT, wantedA, kp, kp2, kpS, kr, k1, k2, kL, kLP, kFn, kFn2, kSl, kSl2, kSl3, kC2, kP0, kP1, ev, evs, evParts, evO, Nat.reduceLT, Nat.reduceEqDiff, reduceIte, fr0, okConst, okc, appendA, cellsA, boxA, allocA, storeA, loadA, fieldA, indexA, fieldV, indexV, partA, extractA, nilA, binA, intBin, unA, lenA, isAggD, isConst, Nat.reduceAdd, Nat.reduceMul, Nat.reduceLeDiff, Nat.reduceSub, Nat.reduceBEq, splice, reduceCtorEq, Int.reduceEq, Int.reduceLT, Int.reduceLE, Int.reduceNeg, Int.reduceBEq, String.reduceEq, eqFlat, tf, aOpI, Array.toList_empty, List.drop_succ_cons, List.drop_zero]
  refine (call13 (hv.keeps hk3) hl (by omega)).mono ?_
  rintro x S4 ⟨hk4, vm', vr', rfl, hfb⟩
  obtain ⟨⟨p1, p2⟩, p3, p4⟩ := frm_one hfb
  have hfa4 := hfa2.keeps hk4
  have hec4 := hec2.keeps hk4
  have hrow4 := hk4.get hrow3
  have hks4 := hk3.trans hk4
  simp only [frmV]
  refine hK1 _ _ ?_
  clear hK1
  simp -implicitDefEqProofs only [vcT, wantedA, kp, kp2, kpS, kr, k1, k2, kL, kLP, kFn, kFn2, kSl, kSl2, kSl3, kC2, kP0, kP1, ev, evs, evParts, evO, Nat.reduceLT, Nat.reduceEqDiff, reduceIte, fr0, okConst, okc, appendA, cellsA, boxA, allocA, storeA, loadA, fieldA, indexA, fieldV, indexV, partA, extractA, nilA, binA, intBin, unA, lenA, isAggD, isConst, Nat.reduceAdd, Nat.reduceMul, Nat.reduceLeDiff, Nat.reduceSub, Nat.reduceBEq, splice, reduceCtorEq, Int.reduceEq, Int.reduceLT, Int.reduceLE, Int.reduceNeg, Int.reduceBEq, String.reduceEq, eqFlat, tf, aOpI, ty34, p1, p2, p3, p4, List.drop_succ_cons, List.drop_zero]
  refine hK _ _ ?_
  clear hK
  have hrow5 := at_old hrow4 [AObj.row 34 true (frmC (decF l).1 vm' vr')]
  have hfa5 := hfa4.keeps (Keeps.append S4 [AObj.row 34 true (frmC (decF l).1 vm' vr')])
  have hec5 := hec4.keeps (Keeps.append S4 [AObj.row 34 true (frmC (decF l).1 vm' vr')])
  have hfb5 := hfb.keeps (Keeps.append S4 [AObj.row 34 true (frmC (decF l).1 vm' vr')])
  have hks5 := hks4.more [AObj.row 34 true (frmC (decF l).1 vm' vr')]
  have hrowb : (S4 ++ [AObj.row 34 true (frmC (decF l).1 vm' vr')])[S4.length]? = some (.row 34 true (frmC (decF l).1 vm' vr')) := by simp
  simp only [frmC] at hrow5 hfa5 hec5 hfb5 hks5 hrowb
  refine AWp.seq_region tok fun K hK => ?_
  refine aList_cut 2 fun K1 hK1 => ?_
  simp -implicitDefEqProofs only [vcT, wantedA, kp, kp2, kpS, kr, k1, k2, kL, kLP, kFn, kFn2, kSl, kSl2, kSl3, kC2, kP0, kP1, ev, evs, evParts, evO, Nat.reduceLT, Nat.reduceEqDiff, reduceIte, fr0, okConst, okc, appendA, cellsA, boxA, allocA, storeA, loadA, fieldA, indexA, fieldV, indexV, partA, extractA, nilA, binA, intBin, unA, lenA, isAggD, isConst, Nat.reduceAdd, Nat.reduceMul, Nat.reduceLeDiff, Nat.reduceSub, Nat.reduceBEq, splice, reduceCtorEq, Int.reduceEq, Int.reduceLT, Int.reduceLE, Int.reduceNeg, Int.reduceBEq, String.reduceEq, eqFlat, tf, aOpI, hrow5, hrowb, ty34]
  refine hK1 _ _ ?_
  clear hK1
  refine aList_cut 1 fun K1 hK1 => ?_
  simp -implicitDefEqProofs only [vcT, wantedA, kp, kp2, kpS, kr, k1, k2, kL, kLP, kFn, kFn2, kSl, kSl2, kSl3, kC2, kP0, kP1, ev, evs, evParts, evO, Nat.reduceLT, Nat.reduceEqDiff, reduceIte, fr0, okConst, okc, appendA, cellsA, boxA, allocA, storeA, loadA, fieldA, indexA, fieldV, indexV, partA, extractA, nilA, binA, intBin, unA, lenA, isAggD, isConst, Nat.reduceAdd, Nat.reduceMul, Nat.reduceLeDiff, Nat.reduceSub, Nat.reduceBEq, splice, reduceCtorEq, Int.reduceEq, Int.reduceLT, Int.reduceLE, Int.reduceNeg, Int.reduceBEq, String.reduceEq, eqFlat, tf, aOpI, Array.toList_empty, List.drop_succ_cons, List.drop_zero]
  refine (call14 hfa5 hfb5).mono ?_
  rintro x S6 ⟨rfl, rfl⟩
  refine hK1 _ _ ?_
  clear hK1
  refine aList_cut 2 fun K1 hK1 => ?_
  simp -implicitDefEqProofs only [vcT, wantedA, kp, kp2, kpS, kr, k1, k2, kL, kLP, kFn, kFn2, kSl, kSl2, kSl3, kC2, kP0, kP1, ev, evs, evParts, evO, Nat.reduceLT, Nat.reduceEqDiff, reduceIte, fr0, okConst, okc, appendA, cellsA, boxA, allocA, storeA, loadA, fieldA, indexA, fieldV, indexV, partA, extractA, nilA, binA, intBin, unA, lenA, isAggD, isConst, Nat.reduceAdd, Nat.reduceMul, Nat.reduceLeDiff, Nat.reduceSub, Nat.reduceBEq, splice, reduceCtorEq, Int.reduceEq, Int.reduceLT, Int.reduceLE, Int.reduceNeg, Int.reduceBEq, String.reduceEq, eqFlat, tf, aOpI, List.drop_succ_cons, List.drop_zero]
  refine hK1 _ _ ?_
  clear hK1
  refine aList_cut 1 fun K1 hK1 => ?_
  simp -implicitDefEqProofs only [vcT, wantedA, kp, kp2, kpS, kr, k1, k2, kL, kLP, kFn, kFn2, kSl, kSl2, kSl3, kC2, kP0, kP1, ev, evs, evParts, evO, Nat.reduceLT, Nat.reduceEqDiff, reduceIte, fr0, okConst, okc, appendA, cellsA, boxA, allocA, storeA, loadA, fieldA, indexA, fieldV, indexV, partA, extractA, nilA, binA, intBin, unA, lenA, isAggD, isConst, Nat.reduceAdd, Nat.reduceMul, Nat.reduceLeDiff, Nat.reduceSub, Nat.reduceBEq, splice, reduceCtorEq, Int.reduceEq, Int.reduceLT, Int.reduceLE, Int.reduceNeg, Int.reduceBEq, String.reduceEq, eqFlat, tf, aOpI, Array.toList_empty, List.drop_succ_cons, List.drop_zero]
  obtain ⟨fi1, fi2⟩ := decF_fine hl (by omega)
  refine (call15 hec5 fi1 fi2).mono ?_
  rintro x S6 ⟨rfl, rfl⟩
  refine hK1 _ _ ?_
  clear hK1
  simp -implicitDefEqProofs only [vcT, wantedA, kp, kp2, kpS, kr, k1, k2, kL, kLP, kFn, kFn2, kSl, kSl2, kSl3, kC2, kP0, kP1, ev, evs, evParts, evO, Nat.reduceLT, Nat.reduceEqDiff, reduceIte, fr0, okConst, okc, appendA, cellsA, boxA, allocA, storeA, loadA, fieldA, indexA, fieldV, indexV, partA, extractA, nilA, binA, intBin, unA, lenA, isAggD, isConst, Nat.reduceAdd, Nat.reduceMul, Nat.reduceLeDiff, Nat.reduceSub, Nat.reduceBEq, splice, reduceCtorEq, Int.reduceEq, Int.reduceLT, Int.reduceLE, Int.reduceNeg, Int.reduceBEq, String.reduceEq, eqFlat, tf, aOpI, strBin, beq_self_eq_true, List.drop_succ_cons, List.drop_zero]
  refine hK _ _ ?_
  clear hK
  refine AWp.ret ?_
  simp -implicitDefEqProofs only [vcT, wantedA, kp, kp2, kpS, kr, k1, k2, kL, kLP, kFn, kFn2, kSl, kSl2, kSl3, kC2, kP0, kP1, ev, evs, evParts, evO, Nat.reduceLT, Nat.reduceEqDiff, reduceIte, fr0, okConst, okc, appendA, cellsA, boxA, allocA, storeA, loadA, fieldA, indexA, fieldV, indexV, partA, extractA, nilA, binA, intBin, unA, lenA, isAggD, isConst, Nat.reduceAdd, Nat.reduceMul, Nat.reduceLeDiff, Nat.reduceSub, Nat.reduceBEq, splice, reduceCtorEq, Int.reduceEq, Int.reduceLT, Int.reduceLE, Int.reduceNeg, Int.reduceBEq, String.reduceEq, eqFlat, tf, aOpI, ThenA, BlockA, EndA, ressA, resA, wrapA]
  exact ⟨hks5, .const _ rfl⟩

/-! arguments -/
theorem map_of {α : Type} (g : α → List Value) : ∀ (ys : List (List Value)), (∀ y ∈ ys, ∃ p, y = g p) → ∃ ps : List α, ys = ps.map g
  | [], _ => ⟨[], rfl⟩
  | y :: ys, h => by
    obtain ⟨p, hp⟩ := h y (by simp)
    obtain ⟨ps, hps⟩ := map_of g ys (fun z hz => h z (by simp [hz]))
    exact ⟨p :: ps, by rw [hp, hps]; rfl⟩
theorem nat_of {n : Int} {N : Nat} (h0 : 0 ≤ n) (h1 : n ≤ N) : ∃ k : Nat, n = k ∧ k ≤ N := by
  obtain ⟨k, rfl⟩ := Int.eq_ofNat_of_zero_le h0
  exact ⟨k, rfl, by omega⟩
theorem lies_u8 {S : St} {t : TypeId} {us : List Value} (h : Lies Try.prog S t us) (ht : Try.prog.underlying t = some (.int .u8)) : ∃ n : Nat, us = [.int .u8 (n : Int)] ∧ n ≤ 255 := by
  obtain ⟨n, rfl, hw⟩ := h.int_ ht
  simp [Lit.wf, IntKind.min, IntKind.max, IntKind.signed, IntKind.bits] at hw
  obtain ⟨k, rfl, hk⟩ := nat_of (N := 255) hw.1 (by simpa using hw.2)
  exact ⟨k, rfl, hk⟩
theorem lies_u16 {S : St} {t : TypeId} {us : List Value} (h : Lies Try.prog S t us) (ht : Try.prog.underlying t = some (.int .u16)) : ∃ n : Nat, us = [.int .u16 (n : Int)] ∧ n ≤ 65535 := by
  obtain ⟨n, rfl, hw⟩ := h.int_ ht
  simp [Lit.wf, IntKind.min, IntKind.max, IntKind.signed, IntKind.bits] at hw
  obtain ⟨k, rfl, hk⟩ := nat_of (N := 65535) hw.1 (by simpa using hw.2)
  exact ⟨k, rfl, hk⟩
theorem lies_u32 {S : St} {t : TypeId} {us : List Value} (h : Lies Try.prog S t us) (ht : Try.prog.underlying t = some (.int .u32)) : ∃ n : Nat, us = [.int .u32 (n : Int)] ∧ n ≤ 4294967295 := by
  obtain ⟨n, rfl, hw⟩ := h.int_ ht
  simp [Lit.wf, IntKind.min, IntKind.max, IntKind.signed, IntKind.bits] at hw
  obtain ⟨k, rfl, hk⟩ := nat_of (N := 4294967295) hw.1 (by simpa using hw.2)
  exact ⟨k, rfl, hk⟩
theorem lies22 {S : St} {us : List Value} (h : Lies Try.prog S 22 us) : ∃ v l, us = [v] ∧ SlB S v l ∧ IsBy l ∧ l.length ≤ 140737488351232 := by
  obtain ⟨o, xs, rfl, hS, hb, hm, hl, hx⟩ := h.slice_ Try.underlying22
  have hb1 : Try.prog.bytesOf 5 = 1 := by kernel_rfl
  have hr : reachBytes = 140737488351232 := rfl
  rw [hb1, hr] at hb
  have : ∃ ps : List { n : Nat // n ≤ 255 }, xs = ps.map fun p => [Value.int .u8 (p.1 : Int)] := map_of _ xs fun y hy => by
    obtain ⟨n, h1, h2⟩ := lies_u8 (hx y hy) Try.underlying5
    exact ⟨⟨n, h2⟩, h1⟩
  obtain ⟨ps, rfl⟩ := this
  have e1 : (ps.map fun p => [Value.int IntKind.u8 (p.1 : Int)]).flatten = bys (ps.map (·.1)) := by
    clear hb hm hl hx hS h
    induction ps with
    | nil => rfl
    | cons p ps ih => rw [List.map_cons, List.flatten_cons, ih]; rfl
  rw [e1] at hS
  refine ⟨_, ps.map (·.1), rfl, ⟨.inr ⟨o, 0, 0, false, bys (ps.map (·.1)), by simp, hS, by rw [bys_len]; omega, by rw [List.drop_zero, ← bys_len, List.take_length], .inl rfl⟩⟩, fun x hx => ?_, by simpa using hb⟩
  obtain ⟨p, _, rfl⟩ := List.mem_map.1 hx
  have := p.2
  omega
theorem arg22 {S : St} {u : Value} (h : ArgL Try.prog S 22 u) : ∃ l, SlB S u l ∧ IsBy l ∧ l.length ≤ 140737488351232 := by
  simp only [ArgL, Try.underlying22] at h
  obtain ⟨v, l, h1, h2⟩ := lies22 h
  cases h1
  exact ⟨l, h2⟩
end Go.Proofs.Ytpgiiidnimbdgaa
