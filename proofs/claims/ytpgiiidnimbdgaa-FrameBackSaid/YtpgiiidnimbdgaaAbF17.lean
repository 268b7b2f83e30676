/- Frames copied: walked. -/
import Derived.Test.YtpgiiidnimbdgaaAbF16
namespace Go.Proofs.Ytpgiiidnimbdgaa
open Go.Ab
set_option linter.unusedSimpArgs false
set_option linter.unusedVariables false
set_option maxRecDepth 4000

def cellsM (ms : List Msg) (ds : List Value) : List Value := ((ms.zip ds).map fun p => [Value.int .i64 p.1.port, p.2]).flatten
theorem cellsM_cons (m : Msg) (ms : List Msg) (d : Value) (ds : List Value) : cellsM (m :: ms) (d :: ds) = .int .i64 m.port :: d :: cellsM ms ds := rfl
theorem cellsM_len : ∀ {ms : List Msg} {ds : List Value}, ds.length = ms.length → (cellsM ms ds).length = ms.length * 2
  | [], [], _ => rfl
  | m :: ms, d :: ds, h => by
    rw [cellsM_cons, List.length_cons, List.length_cons, cellsM_len (by simpa using h), List.length_cons, Nat.succ_mul]
  | [], _ :: _, h => by simp at h
  | _ :: _, [], h => by simp at h
theorem cellsM_set : ∀ {ms : List Msg} {ds : List Value} (i : Nat) (u : Value), ds.length = ms.length → (cellsM ms ds).set (i * 2 + 1) u = cellsM ms (ds.set i u)
  | [], [], i, u, _ => rfl
  | m :: ms, d :: ds, 0, u, h => rfl
  | m :: ms, d :: ds, i + 1, u, h => by
    have e : (i + 1) * 2 + 1 = (i * 2 + 1) + 1 + 1 := by omega
    rw [cellsM_cons, e, List.set_cons_succ, List.set_cons_succ, cellsM_set i u (by simpa using h), List.set_cons_succ, cellsM_cons]
  | [], _ :: _, _, _, h => by simp at h
  | _ :: _, [], _, _, h => by simp at h
theorem cellsM_get : ∀ {ms : List Msg} {ds : List Value} {i : Nat} {m : Msg} {d : Value}, ms[i]? = some m → ds[i]? = some d → (cellsM ms ds)[i * 2]? = some (.int .i64 m.port) ∧ (cellsM ms ds)[i * 2 + 1]? = some d
  | m :: ms, d :: ds, 0, _, _, h, h' => by
    simp at h h'
    subst h; subst h'
    exact ⟨rfl, rfl⟩
  | m :: ms, d :: ds, i + 1, _, _, h, h' => by
    have e : (i + 1) * 2 = i * 2 + 1 + 1 := by omega
    have := cellsM_get (ms := ms) (ds := ds) (i := i) (by simpa using h) (by simpa using h')
    rw [cellsM_cons, e]
    exact this
  | [], _, _, _, _, h, _ => by simp at h
  | _ :: _, [], _, _, _, _, h => by simp at h
theorem cellsM_snoc {ms : List Msg} {ds : List Value} (h : ds.length = ms.length) (m : Msg) (d : Value) : cellsM (ms ++ [m]) (ds ++ [d]) = cellsM ms ds ++ [.int .i64 m.port, d] := by
  unfold cellsM
  rw [List.zip_append (by omega), List.map_append, List.flatten_append]
  rfl
/-- A list of messages of one's own. -/
structure OwM (S : St) (n o : Nat) (ms : List Msg) (ds : List Value) : Prop where
  lo : n ≤ o
  row : S[o]? = some (.row 77 true (cellsM ms ds))
  len : ds.length = ms.length
  data : ∀ (i : Nat) (m : Msg) (d : Value), ms[i]? = some m → ds[i]? = some d → SlB S d m.data
theorem OwM.slM {S : St} {n o : Nat} {ms : List Msg} {ds : List Value} (h : OwM S n o ms ds) : SlM S (.slice (some ⟨o, 0, none⟩) ms.length 2) ms := by
  refine ⟨ds, h.len, ⟨fun x hx => ?_, .inr ⟨o, 2, true, ?_, h.row, .inr rfl⟩⟩, h.data⟩
  · obtain ⟨p, _, rfl⟩ := List.mem_map.1 hx
    rfl
  · simp [h.len]
theorem OwM.modO {S S' : St} {n o o' : Nat} {ms : List Msg} {ds : List Value} (h : OwM S n o ms ds) (hm : ModO o' S S') {ty : TypeId} {rw : Bool} {cs : List Value} (ho : S[o']? = some (.row ty rw cs)) (h5 : ty ≠ 5) (h7 : ty ≠ 77) : OwM S' n o ms ds :=
  ⟨h.lo, hm.get h.row (fun e => by subst e; rw [h.row] at ho; cases ho; exact h7 rfl), h.len, fun i m d q1 q2 => (h.data i m d q1 q2).modO hm ho h5⟩
theorem OwM.keeps {S S' : St} {n o : Nat} {ms : List Msg} {ds : List Value} (h : OwM S n o ms ds) (hk : Keeps S S') : OwM S' n o ms ds :=
  ⟨h.lo, hk.get h.row, h.len, fun i m d q1 q2 => (h.data i m d q1 q2).keeps hk⟩
theorem Sl.cells {S : St} {ty sz : Nat} {v : Value} {xs : List (List Value)} (h : Sl S ty sz v xs) (hsz : sz ≠ 0) : cellsA S sz v = some (xs.length, xs.flatten) := by
  have hl : ∀ {xs : List (List Value)}, (∀ x ∈ xs, x.length = sz) → xs.flatten.length = xs.length * sz := by
    intro xs hw
    induction xs with
    | nil => simp
    | cons x xs ih => rw [List.flatten_cons, List.length_append, hw x (by simp), ih fun y hy => hw y (by simp [hy]), List.length_cons, Nat.succ_mul, Nat.add_comm]
  have hlen := hl h.w
  rcases h.h with ⟨rfl, rfl⟩ | ⟨o, s, rw, rfl, h2, h3⟩
  · rfl
  · have e : List.take (xs.length * sz) xs.flatten = xs.flatten := by rw [← hlen, List.take_length]
    simp only [cellsA, h2, Nat.zero_add, List.drop_zero, hlen, Nat.le_refl, if_true, e]
    try simp
theorem SlR.flat {S : St} {v : Value} {rs : List Rec} (h : SlR S v rs) : cellsA S 5 v = some (rs.length, (rs.map Rec.cells).flatten) := by
  have := Sl.cells h (by decide)
  simpa using this
theorem SlM.flat {S : St} {v : Value} {ms : List Msg} (h : SlM S v ms) : ∃ ds, ds.length = ms.length ∧ (∀ S', Keeps S S' → cellsA S' 2 v = some (ms.length, cellsM ms ds)) ∧ ∀ (i : Nat) (m : Msg) (d : Value), ms[i]? = some m → ds[i]? = some d → SlB S d m.data := by
  obtain ⟨ds, h1, h2, h3⟩ := h
  refine ⟨ds, h1, fun S' hk => ?_, h3⟩
  have := (h2.keeps hk).cells (by decide)
  rw [this]
  simp [h1, cellsM]
theorem bs27_0 (S : St) : buildSliceA TT S 27 0 [] = some (.slice (some ⟨S.length, 0, none⟩) 0 2, S ++ [.row 77 true []]) := by kernel_rfl
theorem bs32_0 (S : St) : buildSliceA TT S 32 0 [] = some (.slice (some ⟨S.length, 0, none⟩) 0 5, S ++ [.row 81 true []]) := by kernel_rfl

theorem enter18 (cargs : Array Value) (w : World) : (callFunc 18 cargs).run Try.prog w = .ok (.enter 18 cargs) w := by kernel_rfl
set_option maxHeartbeats 1000000 in
theorem call18 {S : St} {f : Frm} {vm vr : Value} (h : FrAt S f vm vr) (hlm : f.ms.length ≤ 300) (hlr : f.rs.length ≤ 300) (hld : ∀ m ∈ f.ms, m.data.length ≤ 140737488355328) :
    ACalls Try.prog 18 [frmV f vm vr] S (fun x S' => Keeps S S' ∧ ∃ vm' vr', x = frmV f vm' vr' ∧ FrAt S' f vm' vr') := by
  refine ACalls.of tok enter18 Try.func18 rfl (m := 35) rfl (by simp) (rs := [.cell 2 34]) rfl fun hc ha => ?_
  clear ha
  simp only [frmV]
  have hv1 : solid vm = true ∧ vm.cells = #[vm] := by
    obtain ⟨ds, _, h2, _⟩ := h.ms
    rcases h2.h with ⟨rfl, _⟩ | ⟨_, _, _, rfl, _⟩ <;> exact ⟨rfl, rfl⟩
  have hv2 : solid vr = true ∧ vr.cells = #[vr] := by
    rcases h.rs.h with ⟨rfl, _⟩ | ⟨_, _, _, rfl, _⟩ <;> exact ⟨rfl, rfl⟩
  obtain ⟨ds, d1, d2, d3⟩ := h.ms.flat
  have hcl := cellsM_len d1
  have z1 : f.ms.length * 16 ≤ 140737488355328 := by omega
  have z1' : f.ms.length * 32 ≤ 140737488355328 := by omega
  have z2 : f.ms.length ≤ 9223372036854775807 := by omega
  refine AWp.seq_region tok fun K hK => ?_
  simp -implicitDefEqProofs only [vcT, wantedA, kp, kp2, kpS, kr, k1, k2, kL, kLP, kFn, kFn2, kSl, kSl2, kSl3, kC2, kP0, kP1, ev, evs, evParts, evO, Nat.reduceLT, Nat.reduceEqDiff, reduceIte, fr0, okConst, okc, appendA, cellsA, boxA, allocA, storeA, loadA, fieldA, indexA, fieldV, indexV, partA, extractA, nilA, binA, intBin, unA, lenA, isAggD, isConst, Nat.reduceAdd, Nat.reduceMul, Nat.reduceLeDiff, Nat.reduceSub, Nat.reduceBEq, splice, reduceCtorEq, Int.reduceEq, Int.reduceLT, Int.reduceLE, Int.reduceNeg, Int.reduceBEq, String.reduceEq, eqFlat, tf, aOpI]
  refine hK _ _ ?_
  clear hK
  have c1 : ∀ R, cellsA (S ++ R) 2 vm = some (f.ms.length, cellsM f.ms ds) := fun R => d2 _ (Keeps.append _ _)
  refine AWp.seq_region tok fun K hK => ?_
  simp -implicitDefEqProofs only [vcT, wantedA, kp, kp2, kpS, kr, k1, k2, kL, kLP, kFn, kFn2, kSl, kSl2, kSl3, kC2, kP0, kP1, ev, evs, evParts, evO, Nat.reduceLT, Nat.reduceEqDiff, reduceIte, fr0, okConst, okc, appendA, boxA, allocA, storeA, loadA, fieldA, indexA, fieldV, indexV, partA, extractA, nilA, binA, intBin, unA, lenA, isAggD, isConst, Nat.reduceAdd, Nat.reduceMul, Nat.reduceLeDiff, Nat.reduceSub, Nat.reduceBEq, splice, reduceCtorEq, Int.reduceEq, Int.reduceLT, Int.reduceLE, Int.reduceNeg, Int.reduceBEq, String.reduceEq, eqFlat, tf, aOpI, ty34, ty27, ty77, bs27_0, c1, hv1.1, hv1.2, hv2.1, hv2.2, z1, z2, z1']
  refine hK _ _ ?_
  clear hK
  obtain ⟨vL, hvL⟩ : ∃ vL, vL = Value.slice (some ⟨S.length + 3, 0, none⟩) f.ms.length 2 := ⟨_, rfl⟩
  rw [← hvL]
  have hfb : [Value.int IntKind.u8 f.snd, .int .u32 f.rnd, .int .u8 f.mem, vL, .int .u8 f.c.kind, .int .u8 f.c.key, .int .u16 f.c.val, .int .u16 f.c.old, vr] = frmC f vL vr := rfl
  have hfz : [Value.int IntKind.u8 0, .int .u32 0, .int .u8 0, .slice none 0 0, .int .u8 0, .int .u8 0, .int .u16 0, .int .u16 0, .slice none 0 0] = frmC zF (.slice none 0 0) (.slice none 0 0) := rfl
  have hOw : OwM (S ++ [AObj.row 34 true (frmC f vL vr), .row 34 true (frmC zF (.slice none 0 0) (.slice none 0 0)), .dead, .row 77 true (cellsM f.ms ds)]) S.length (S.length + 3) f.ms ds :=
    ⟨by omega, by simp, d1, fun i m d q1 q2 => (d3 i m d q1 q2).append _⟩
  have hKS : Keeps S (S ++ [AObj.row 34 true (frmC f vL vr), .row 34 true (frmC zF (.slice none 0 0) (.slice none 0 0)), .dead, .row 77 true (cellsM f.ms ds)]) := Keeps.append _ _
  have hb0 : (S ++ [AObj.row 34 true (frmC f vL vr), .row 34 true (frmC zF (.slice none 0 0) (.slice none 0 0)), .dead, .row 77 true (cellsM f.ms ds)])[S.length]? = some (.row 34 true (frmC f vL vr)) := by simp
  have hb1 : (S ++ [AObj.row 34 true (frmC f vL vr), .row 34 true (frmC zF (.slice none 0 0) (.slice none 0 0)), .dead, .row 77 true (cellsM f.ms ds)])[S.length + 1]? = some (.row 34 true (frmC zF (.slice none 0 0) (.slice none 0 0))) := by simp
  rw [hfb, hfz]
  generalize (S ++ [AObj.row 34 true (frmC f vL vr), .row 34 true (frmC zF (.slice none 0 0) (.slice none 0 0)), .dead, .row 77 true (cellsM f.ms ds)]) = S1 at hOw hKS hb0 hb1 ⊢
  obtain ⟨fc, hfc⟩ : ∃ fc, fc = frmC f vL vr := ⟨_, rfl⟩
  rw [← hfc] at hb0
  have f3 : fc[3]? = some vL := by rw [hfc]; rfl
  have f8 : fc[8]? = some vr := by rw [hfc]; rfl
  clear c1 hcl
  refine AWp.seqK fun K0 hK0 => ?_
  refine AWp.seq_region tok fun K hK => ?_
  simp -implicitDefEqProofs only [vcT, wantedA, kp, kp2, kpS, kr, k1, k2, kL, kLP, kFn, kFn2, kSl, kSl2, kSl3, kC2, kP0, kP1, ev, evs, evParts, evO, Nat.reduceLT, Nat.reduceEqDiff, reduceIte, fr0, okConst, okc, appendA, cellsA, boxA, allocA, storeA, loadA, fieldA, indexA, fieldV, indexV, partA, extractA, nilA, binA, intBin, unA, lenA, isAggD, isConst, Nat.reduceAdd, Nat.reduceMul, Nat.reduceLeDiff, Nat.reduceSub, Nat.reduceBEq, splice, reduceCtorEq, Int.reduceEq, Int.reduceLT, Int.reduceLE, Int.reduceNeg, Int.reduceBEq, String.reduceEq, eqFlat, tf, aOpI]
  refine hK _ _ ?_
  clear hK
  refine AWp.block ?_
  refine AWp.loopW (fun q fr S2 => ∃ (i : Nat) (ds : List Value), q + i = f.ms.length ∧ OwM S2 S.length (S.length + 3) f.ms ds ∧ Keeps S S2 ∧ S2[S.length]? = some (.row 34 true fc) ∧ S2[S.length + 1]? = some (.row 34 true (frmC zF (.slice none 0 0) (.slice none 0 0))) ∧ fr = frL [(1, .pointer (some ⟨S.length, 0, none⟩)), (2, .pointer (some ⟨S.length + 1, 0, none⟩)), (3, .int .i64 i)]) f.ms.length
    ⟨_, _, Wk.frame ?_, 0, ds, rfl, hOw, hKS, hb0, hb1, rfl⟩ ?_
  · simp only [List.forall_mem_cons, vcT, wantedA, kp, kp2, kpS, kr, k1, k2, kL, kLP, kFn, kFn2, kSl, kSl2, kSl3, kC2, kP0, kP1, ev, evs, evParts, evO, Nat.reduceLT, Nat.reduceEqDiff, reduceIte, fr0, okConst, okc, appendA, cellsA, boxA, allocA, storeA, loadA, fieldA, indexA, fieldV, indexV, partA, extractA, nilA, binA, intBin, unA, lenA, isAggD, isConst, Nat.reduceAdd, Nat.reduceMul, Nat.reduceLeDiff, Nat.reduceSub, Nat.reduceBEq, splice, reduceCtorEq, Int.reduceEq, Int.reduceLT, Int.reduceLE, Int.reduceNeg, Int.reduceBEq, String.reduceEq, eqFlat, tf, aOpI]
    simp
  clear hOw hKS hb0 hb1 d1 d2 d3 hfb hfz
  rintro q fr S2 ⟨i, ds, hqi, hOw, hKS, hb0, hb1, rfl⟩
  have hvl : lenA TT 27 vL = some (.int .i64 f.ms.length) := by rw [hvL]; exact hOw.slM.len
  refine AWp.seqK fun K1 hK1 => ?_
  refine AWp.seq_region tok fun K hK => ?_
  simp -implicitDefEqProofs only [vcT, wantedA, kp, kp2, kpS, kr, k1, k2, kL, kLP, kFn, kFn2, kSl, kSl2, kSl3, kC2, kP0, kP1, ev, evs, evParts, evO, Nat.reduceLT, Nat.reduceEqDiff, reduceIte, fr0, okConst, okc, appendA, cellsA, boxA, allocA, storeA, loadA, fieldA, indexA, fieldV, indexV, partA, extractA, nilA, binA, intBin, unA, isAggD, isConst, Nat.reduceAdd, Nat.reduceMul, Nat.reduceLeDiff, Nat.reduceSub, Nat.reduceBEq, splice, reduceCtorEq, Int.reduceEq, Int.reduceLT, Int.reduceLE, Int.reduceNeg, Int.reduceBEq, String.reduceEq, eqFlat, tf, aOpI, frL_cons, hb0, f3, hvl, ty34, ty27]
  refine hK _ _ ?_
  clear hK
  refine AWp.condP ((i : Int) < (f.ms.length : Int)) (by simp only [vcT, wantedA, kp, kp2, kpS, kr, k1, k2, kL, kLP, kFn, kFn2, kSl, kSl2, kSl3, kC2, kP0, kP1, ev, evs, evParts, evO, Nat.reduceLT, Nat.reduceEqDiff, reduceIte, fr0, okConst, okc, appendA, cellsA, boxA, allocA, storeA, loadA, fieldA, indexA, fieldV, indexV, partA, extractA, nilA, binA, intBin, unA, lenA, isAggD, isConst, Nat.reduceAdd, Nat.reduceMul, Nat.reduceLeDiff, Nat.reduceSub, Nat.reduceBEq, splice, reduceCtorEq, Int.reduceEq, Int.reduceLT, Int.reduceLE, Int.reduceNeg, Int.reduceBEq, String.reduceEq, eqFlat, tf, aOpI]) (fun hin => ?_) (fun hin => ?_)
  rotate_left
  · refine AWp.exit ?_
    simp only [ThenA, BlockA, if_true]
    refine hK0 _ _ ?_
    clear hK0 hK1
    obtain ⟨r1, r2⟩ : solid vL = true ∧ vL.cells = #[vL] := by rw [hvL]; exact ⟨rfl, rfl⟩
    have u1 : ∀ R, cellsA (S2 ++ R) 5 vr = some (f.rs.length, (f.rs.map Rec.cells).flatten) := fun R => (h.rs.keeps (hKS.more R)).flat
    have hbR : ∀ R, (S2 ++ R)[S.length]? = some (.row 34 true fc) := fun R => at_old hb0 R
    have hbR1 : ∀ R, (S2 ++ R)[S.length + 1]? = some (.row 34 true (frmC zF (.slice none 0 0) (.slice none 0 0))) := fun R => at_old hb1 R
    have y1 : f.rs.length * 8 ≤ 140737488355328 := by omega
    have y1' : f.rs.length * 12 ≤ 140737488355328 := by omega
    have y2 : f.rs.length ≤ 9223372036854775807 := by omega
    have hst : fc.set 8 (.slice (some ⟨S2.length + 1, 0, none⟩) f.rs.length 5) = frmC f vL (.slice (some ⟨S2.length + 1, 0, none⟩) f.rs.length 5) := by rw [hfc]; rfl
    have hln : 8 + 1 ≤ fc.length := by rw [hfc]; exact Nat.le_refl _
    refine AWp.seq_region tok fun K hK => ?_
    simp -implicitDefEqProofs only [vcT, wantedA, kp, kp2, kpS, kr, k1, k2, kL, kLP, kFn, kFn2, kSl, kSl2, kSl3, kC2, kP0, kP1, ev, evs, evParts, evO, Nat.reduceLT, Nat.reduceEqDiff, reduceIte, fr0, okConst, okc, appendA, boxA, allocA, storeA, loadA, fieldA, indexA, fieldV, indexV, partA, extractA, nilA, binA, intBin, unA, lenA, isAggD, isConst, Nat.reduceAdd, Nat.reduceMul, Nat.reduceLeDiff, Nat.reduceSub, Nat.reduceBEq, splice, reduceCtorEq, Int.reduceEq, Int.reduceLT, Int.reduceLE, Int.reduceNeg, Int.reduceBEq, String.reduceEq, eqFlat, tf, aOpI, frL_cons, hb0, hbR, hbR1, f8, ty34, ty32, ty81, bs32_0, u1, y1, y1', y2, hst, hln]
    refine hK _ _ ?_
    clear hK
    obtain ⟨vR, hvR⟩ : ∃ vR, vR = Value.slice (some ⟨S2.length + 1, 0, none⟩) f.rs.length 5 := ⟨_, rfl⟩
    obtain ⟨r3, r4⟩ : solid vR = true ∧ vR.cells = #[vR] := by rw [hvR]; exact ⟨rfl, rfl⟩
    rw [← hvR]
    have l1 := (List.getElem?_eq_some_iff.1 hb1).1
    have hk3 : Keeps S ((S2 ++ [AObj.dead, .row 81 true (f.rs.map Rec.cells).flatten]).set S.length (.row 34 true (frmC f vL vR))) := (hKS.more _).set (Nat.le_refl _) _
    have hO3 : OwM ((S2 ++ [AObj.dead, .row 81 true (f.rs.map Rec.cells).flatten]).set S.length (.row 34 true (frmC f vL vR))) S.length (S.length + 3) f.ms ds :=
      (hOw.keeps (Keeps.append _ _)).modO (ModO.set _ _ _) (hbR _) (by decide) (by decide)
    have hb3 : ((S2 ++ [AObj.dead, .row 81 true (f.rs.map Rec.cells).flatten]).set S.length (.row 34 true (frmC f vL vR)))[S.length]? = some (.row 34 true (frmC f vL vR)) := List.getElem?_set_self (by simp; omega)
    have hb4 : ((S2 ++ [AObj.dead, .row 81 true (f.rs.map Rec.cells).flatten]).set S.length (.row 34 true (frmC f vL vR)))[S.length + 1]? = some (.row 34 true (frmC zF (.slice none 0 0) (.slice none 0 0))) := by
      rw [List.getElem?_set_ne (by omega)]
      exact hbR1 _
    have hR3 : ((S2 ++ [AObj.dead, .row 81 true (f.rs.map Rec.cells).flatten]).set S.length (.row 34 true (frmC f vL vR)))[S2.length + 1]? = some (.row 81 true (f.rs.map Rec.cells).flatten) := by
      rw [List.getElem?_set_ne (by omega)]
      simp
    have hne : S2.length + 1 ≠ S.length + 1 := by omega
    generalize ((S2 ++ [AObj.dead, AObj.row 81 true (f.rs.map Rec.cells).flatten]).set S.length (AObj.row 34 true (frmC f vL vR))) = S3 at hk3 hO3 hb3 hb4 hR3 ⊢
    have l3 := (List.getElem?_eq_some_iff.1 hb4).1
    simp only [frmC] at hb3 hb4
    have hst4 : (S3.set (S.length + 1) (.row 34 true (frmC f vL vR)))[S.length + 1]? = some (.row 34 true (frmC f vL vR)) := List.getElem?_set_self l3
    simp only [frmC] at hst4
    refine AWp.seq_region tok fun K hK => ?_
    simp -implicitDefEqProofs only [vcT, wantedA, kp, kp2, kpS, kr, k1, k2, kL, kLP, kFn, kFn2, kSl, kSl2, kSl3, kC2, kP0, kP1, ev, evs, evParts, evO, Nat.reduceLT, Nat.reduceEqDiff, reduceIte, fr0, okConst, okc, appendA, cellsA, boxA, allocA, storeA, loadA, fieldA, indexA, fieldV, indexV, partA, extractA, nilA, binA, intBin, unA, lenA, isAggD, isConst, Nat.reduceAdd, Nat.reduceMul, Nat.reduceLeDiff, Nat.reduceSub, Nat.reduceBEq, splice, reduceCtorEq, Int.reduceEq, Int.reduceLT, Int.reduceLE, Int.reduceNeg, Int.reduceBEq, String.reduceEq, eqFlat, tf, aOpI, frL_cons, hb3, hb4, ty34, r1, r2, r3, r4]
    refine hK _ _ ?_
    clear hK
    refine AWp.ret ?_
    simp -implicitDefEqProofs only [vcT, wantedA, kp, kp2, kpS, kr, k1, k2, kL, kLP, kFn, kFn2, kSl, kSl2, kSl3, kC2, kP0, kP1, ev, evs, evParts, evO, Nat.reduceLT, Nat.reduceEqDiff, reduceIte, fr0, okConst, okc, appendA, cellsA, boxA, allocA, storeA, loadA, fieldA, indexA, fieldV, indexV, partA, extractA, nilA, binA, intBin, unA, lenA, isAggD, isConst, Nat.reduceAdd, Nat.reduceMul, Nat.reduceLeDiff, Nat.reduceSub, Nat.reduceBEq, splice, reduceCtorEq, Int.reduceEq, Int.reduceLT, Int.reduceLE, Int.reduceNeg, Int.reduceBEq, String.reduceEq, eqFlat, tf, aOpI, ThenA, BlockA, EndA, ressA, resA, wrapA, frL_cons, hst4, ty34]
    refine ⟨hk3.set (by omega) _, vL, vR, rfl, ⟨?_, ?_, h.lm, h.lr⟩⟩
    · rw [hvL]
      exact (hO3.modO (ModO.set _ _ _) hb4 (by decide) (by decide)).slM
    · rw [hvR]
      refine ⟨fun x hx => ?_, .inr ⟨S2.length + 1, 5, true, by simp, ?_, .inr rfl⟩⟩
      · obtain ⟨p, _, rfl⟩ := List.mem_map.1 hx
        rfl
      · rw [List.getElem?_set_ne (Ne.symm hne)]
        exact hR3
  refine AWp.skip ?_
  refine hK1 _ _ ?_
  clear hK1
  clear hK0
  obtain ⟨m, hm⟩ : ∃ m, f.ms[i]? = some m := ⟨_, List.getElem?_eq_getElem (by omega)⟩
  obtain ⟨d, hd⟩ : ∃ d, ds[i]? = some d := ⟨_, List.getElem?_eq_getElem (by rw [hOw.len]; omega)⟩
  have hda := hOw.data i m d hm hd
  have hca := (cellsM_get hm hd).2
  have hcl := cellsM_len hOw.len
  have hro := hOw.row
  have hroR : ∀ R, (S2 ++ R)[S.length + 3]? = some (.row 77 true (cellsM f.ms ds)) := fun R => at_old hro R
  have hbR : ∀ R, (S2 ++ R)[S.length]? = some (.row 34 true fc) := fun R => at_old hb0 R
  have b2 : 0 ≤ (i : Int) ∧ (i : Int) < (f.ms.length : Int) := by omega
  have x0 : (i : Int).toNat = i := Int.toNat_natCast i
  have v0 : IntKind.wrap .i64 ((i : Int) + 1) = ((i + 1 : Nat) : Int) := by rw [IntKind.wrap_i64]; omega
  have v1 : i * 2 + 1 + 1 ≤ (cellsM f.ms ds).length := by rw [hcl]; omega
  have c1 : ∀ R, cellsA (S2 ++ R) 1 d = some (m.data.length, bys m.data) := fun R => (hda.append R).cells
  have y1 := hld m (List.mem_of_getElem? hm)
  have y2 : m.data.length ≤ 9223372036854775807 := by omega
  have hset := cellsM_set i (.slice (some ⟨S2.length + 1, 0, none⟩) m.data.length 1) hOw.len
  refine AWp.seqK fun K1 hK1 => ?_
  refine AWp.block ?_
  refine AWp.drawK tok mixed [(0, 3), (1, 0), (2, 3), (4, 3), (5, 0), (6, 3), (7, 3), (8, 3), (9, 0), (3, 1), (10, 1), (11, 2), (12, 2), (13, 2)] _ (by kernel_rfl) (Le.refl _) fun K hK => ?_
  simp -implicitDefEqProofs only [vcT, wantedA, kp, kp2, kpS, kr, k1, k2, kL, kLP, kFn, kFn2, kSl, kSl2, kSl3, kC2, kP0, kP1, ev, evs, evParts, evO, Nat.reduceLT, Nat.reduceEqDiff, reduceIte, fr0, okConst, okc, appendA, boxA, allocA, storeA, loadA, fieldA, indexA, fieldV, indexV, partA, extractA, nilA, binA, intBin, unA, isAggD, isConst, Nat.reduceAdd, Nat.reduceMul, Nat.reduceLeDiff, Nat.reduceSub, Nat.reduceBEq, splice, reduceCtorEq, Int.reduceEq, Int.reduceLT, Int.reduceLE, Int.reduceNeg, Int.reduceBEq, String.reduceEq, eqFlat, tf, aOpI, frL_cons, hb0, f3, hvL, ty34, ty27, ty77, ty22, ty5, b2, x0, Nat.zero_add, hro, hroR, hbR, hca, c1, bs22_0, y1, y2, v1, Nat.mul_one, hset]
  refine hK _ _ ?_
  clear hK
  refine hK1 _ _ ?_
  clear hK1
  refine AWp.regionK tok fun K hK => ?_
  simp -implicitDefEqProofs only [vcT, wantedA, kp, kp2, kpS, kr, k1, k2, kL, kLP, kFn, kFn2, kSl, kSl2, kSl3, kC2, kP0, kP1, ev, evs, evParts, evO, Nat.reduceLT, Nat.reduceEqDiff, reduceIte, fr0, okConst, okc, appendA, cellsA, boxA, allocA, storeA, loadA, fieldA, indexA, fieldV, indexV, partA, extractA, nilA, binA, intBin, unA, lenA, isAggD, isConst, Nat.reduceAdd, Nat.reduceMul, Nat.reduceLeDiff, Nat.reduceSub, Nat.reduceBEq, splice, reduceCtorEq, Int.reduceEq, Int.reduceLT, Int.reduceLE, Int.reduceNeg, Int.reduceBEq, String.reduceEq, eqFlat, tf, aOpI, frL_cons, v0]
  refine hK _ _ ?_
  clear hK
  have hkR := Keeps.append S2 [AObj.dead, .row 5 true (bys m.data)]
  have hl3 : S.length + 3 < (S2 ++ [AObj.dead, .row 5 true (bys m.data)]).length := by
    have := (List.getElem?_eq_some_iff.1 hro).1
    rw [List.length_append]
    omega
  refine ⟨q - 1, _, _, by omega, Wk.frame (by simp only [List.forall_mem_cons, vcT, wantedA, kp, kp2, kpS, kr, k1, k2, kL, kLP, kFn, kFn2, kSl, kSl2, kSl3, kC2, kP0, kP1, ev, evs, evParts, evO, Nat.reduceLT, Nat.reduceEqDiff, reduceIte, fr0, okConst, okc, appendA, cellsA, boxA, allocA, storeA, loadA, fieldA, indexA, fieldV, indexV, partA, extractA, nilA, binA, intBin, unA, lenA, isAggD, isConst, Nat.reduceAdd, Nat.reduceMul, Nat.reduceLeDiff, Nat.reduceSub, Nat.reduceBEq, splice, reduceCtorEq, Int.reduceEq, Int.reduceLT, Int.reduceLE, Int.reduceNeg, Int.reduceBEq, String.reduceEq, eqFlat, tf, aOpI, frL_cons]; simp), i + 1, ds.set i (.slice (some ⟨S2.length + 1, 0, none⟩) m.data.length 1), by omega, ?_, ?_, ?_, ?_, rfl⟩
  · refine ⟨hOw.lo, List.getElem?_set_self hl3, by rw [List.length_set]; exact hOw.len, fun j m' d' q1 q2 => ?_⟩
    refine SlB.modO (ModO.set _ _ _) ?_ (hroR _) (by decide)
    by_cases hj : i = j
    · subst hj
      rw [List.getElem?_set_self (by rw [hOw.len]; omega)] at q2
      cases q2
      rw [hm] at q1
      cases q1
      exact OwB.slB (n := 0) ⟨S2.length + 1, Nat.zero_le _, rfl, by simp⟩
    · rw [List.getElem?_set_ne hj] at q2
      exact (hOw.data j m' d' q1 q2).append _
  · exact (hKS.more _).set (by omega) _
  · rw [List.getElem?_set_ne (by omega)]
    exact hbR _
  · rw [List.getElem?_set_ne (by omega)]
    exact at_old hb1 _
end Go.Proofs.Ytpgiiidnimbdgaa
