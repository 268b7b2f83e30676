/- Frames as data; what is wrong with a command: walked. -/
import Derived.Test.YtpgiiidnimbdgaaAbF10
namespace Go.Proofs.Ytpgiiidnimbdgaa
open Go.Ab
set_option linter.unusedSimpArgs false
set_option linter.unusedVariables false
set_option maxRecDepth 4000

structure Msg where
  port : Int
  data : List Nat
structure Rec where
  round : Nat
  node : Nat
  part : Nat
  kind : Nat
  did : Nat
def Rec.cells (r : Rec) : List Value := [.int .u32 r.round, .int .u8 r.node, .int .u8 r.part, .int .u8 r.kind, .int .u8 r.did]
structure Cmd where
  kind : Nat
  key : Nat
  val : Nat
  old : Nat
structure Frm where
  snd : Nat
  rnd : Nat
  mem : Nat
  ms : List Msg
  c : Cmd
  rs : List Rec
def chkM : Nat → List Msg → List (Int × Int)
  | _, [] => []
  | i, m :: t => if m.port < 0 ∨ 24 ≤ m.port then [(2, (i : Int))] else if 16 < m.data.length then [(12, (i : Int))] else chkM (i + 1) t
def Rec.bad (r : Rec) : Bool := decide (7 ≤ r.node) || decide (12 ≤ r.part) || decide (3 < r.kind) || decide (3 < r.did)
def chkR : Nat → List Rec → List (Int × Int)
  | _, [] => []
  | i, r :: t => if r.bad = true then [(50, (i : Int))] else chkR (i + 1) t
def Cmd.bad (c : Cmd) : Bool := (c.kind == 0 && !(c.key == 0 && c.val == 0 && c.old == 0)) || decide (8 ≤ c.key) || (c.kind != 3 && c.old != 0) || (c.kind == 2 && c.val != 0)
def chkC (c : Cmd) : List (Int × Int) := if 3 < c.kind then [(7, -1)] else if c.bad = true then [(8, -1)] else []
def thenE (a b : List (Int × Int)) : List (Int × Int) := match a with
  | [] => b
  | x :: t => x :: t
def chkE (f : Frm) : List (Int × Int) :=
  if 7 ≤ f.snd then [(2, -1)] else if 96 < f.ms.length ∨ 4 < f.rs.length then [(3, -1)] else
  thenE (chkM 0 f.ms) (thenE (chkC f.c) (chkR 0 f.rs))

/-- A slice lies so. -/
structure Sl (S : St) (ty sz : Nat) (v : Value) (xs : List (List Value)) : Prop where
  w : ∀ x ∈ xs, x.length = sz
  h : (v = .slice none 0 0 ∧ xs = []) ∨ ∃ o s rw, v = .slice (some ⟨o, 0, none⟩) xs.length s ∧ S[o]? = some (.row ty rw xs.flatten) ∧ (s = 0 ∨ s = sz)
theorem Sl.keeps {S S' : St} (hk : Keeps S S') {ty sz : Nat} {v : Value} {xs : List (List Value)} (h : Sl S ty sz v xs) : Sl S' ty sz v xs := by
  refine ⟨h.w, ?_⟩
  rcases h.h with h1 | ⟨o, s, rw, h1, h2, h3⟩
  · exact .inl h1
  · exact .inr ⟨o, s, rw, h1, hk.get h2, h3⟩
theorem flat_get {sz : Nat} : ∀ {xs : List (List Value)}, (∀ x ∈ xs, x.length = sz) → ∀ {i : Nat} {x : List Value}, xs[i]? = some x → (xs.flatten.drop (i * sz)).take sz = x ∧ i * sz + sz ≤ xs.flatten.length
  | [], _, i, x, h => by simp at h
  | y :: xs, hw, 0, x, h => by
    simp at h
    subst h
    have := hw y (by simp)
    refine ⟨by simp [List.take_append_of_le_length, ← this], by simp; omega⟩
  | y :: xs, hw, i + 1, x, h => by
    have hy := hw y (by simp)
    obtain ⟨h1, h2⟩ := flat_get (xs := xs) (fun z hz => hw z (by simp [hz])) (i := i) (x := x) (by simpa using h)
    refine ⟨?_, ?_⟩
    · have e1 : (i + 1) * sz = y.length + i * sz := by rw [Nat.succ_mul, hy]; omega
      rw [List.flatten_cons, e1, List.drop_append, List.drop_of_length_le (by omega), List.nil_append, Nat.add_sub_cancel_left]
      exact h1
    · rw [List.flatten_cons, List.length_append, Nat.succ_mul]
      omega
/-- An element of a slice: where it lies. -/
theorem Sl.at {S : St} {ty sz : Nat} {v : Value} {xs : List (List Value)} (h : Sl S ty sz v xs) {i : Nat} {x : List Value} (hx : xs[i]? = some x) :
    ∃ o s rw, v = .slice (some ⟨o, 0, none⟩) xs.length s ∧ S[o]? = some (.row ty rw xs.flatten) ∧ (xs.flatten.drop (i * sz)).take sz = x ∧ i * sz + sz ≤ xs.flatten.length := by
  rcases h.h with ⟨rfl, rfl⟩ | ⟨o, s, rw, h1, h2, h3⟩
  · simp at hx
  · have ⟨h4, h5⟩ := flat_get h.w hx
    exact ⟨o, s, rw, h1, h2, h4, h5⟩
theorem Sl.len {S : St} {ty sz : Nat} {v : Value} {xs : List (List Value)} (h : Sl S ty sz v xs) {t e : TypeId} {a b : Nat} {z : Value} (ht : TT t = some ⟨.slice e, a, z, b⟩) : lenA TT t v = some (.int .i64 xs.length) := by
  rcases h.h with ⟨rfl, rfl⟩ | ⟨o, s, rw, rfl, h2, h3⟩
  · unfold lenA; rw [ht]; rfl
  · unfold lenA; rw [ht]
theorem take_get {l : List Value} {k n i : Nat} {x : List Value} (h : (l.drop k).take n = x) (hi : i < n) : l[k + i]? = x[i]? := by
  rw [← h, List.getElem?_take, if_pos hi, List.getElem?_drop]

/-- A list of messages lies so. -/
def SlM (S : St) (v : Value) (ms : List Msg) : Prop := ∃ ds : List Value, ds.length = ms.length ∧ Sl S 77 2 v ((ms.zip ds).map fun p => [.int .i64 p.1.port, p.2]) ∧ ∀ (i : Nat) (m : Msg) (d : Value), ms[i]? = some m → ds[i]? = some d → SlB S d m.data
def SlR (S : St) (v : Value) (rs : List Rec) : Prop := Sl S 81 5 v (rs.map Rec.cells)
theorem SlM.keeps {S S' : St} (hk : Keeps S S') {v : Value} {ms : List Msg} (h : SlM S v ms) : SlM S' v ms := by
  obtain ⟨ds, h1, h2, h3⟩ := h
  exact ⟨ds, h1, h2.keeps hk, fun i m d q1 q2 => (h3 i m d q1 q2).keeps hk⟩
theorem SlR.keeps {S S' : St} (hk : Keeps S S') {v : Value} {rs : List Rec} (h : SlR S v rs) : SlR S' v rs := Sl.keeps hk h
theorem SlM.len {S : St} {v : Value} {ms : List Msg} (h : SlM S v ms) : lenA TT 27 v = some (.int .i64 ms.length) := by
  obtain ⟨ds, h1, h2, h3⟩ := h
  rw [h2.len ty27]
  simp [h1]
theorem SlR.len {S : St} {v : Value} {rs : List Rec} (h : SlR S v rs) : lenA TT 32 v = some (.int .i64 rs.length) := by
  rw [Sl.len h ty32]
  simp
theorem SlM.at {S : St} {v : Value} {ms : List Msg} (h : SlM S v ms) {i : Nat} {m : Msg} (hm : ms[i]? = some m) :
    ∃ o s rw cs d, v = .slice (some ⟨o, 0, none⟩) ms.length s ∧ S[o]? = some (.row 77 rw cs) ∧ (cs.drop (i * 2)).take 2 = [.int .i64 m.port, d] ∧ i * 2 + 2 ≤ cs.length ∧ SlB S d m.data ∧ i < ms.length := by
  obtain ⟨ds, h1, h2, h3⟩ := h
  have hi := (List.getElem?_eq_some_iff.1 hm).1
  obtain ⟨d, hd⟩ : ∃ d, ds[i]? = some d := ⟨_, List.getElem?_eq_getElem (by omega)⟩
  obtain ⟨o, s, rw, g1, g2, g3, g4⟩ := h2.at (i := i) (x := [.int .i64 m.port, d]) (by simp [List.getElem?_zip_eq_some, hm, hd])
  exact ⟨o, s, rw, _, d, by rw [g1]; simp [h1], g2, g3, g4, h3 i m d hm hd, hi⟩
theorem SlR.at {S : St} {v : Value} {rs : List Rec} (h : SlR S v rs) {i : Nat} {r : Rec} (hm : rs[i]? = some r) :
    ∃ o s rw cs, v = .slice (some ⟨o, 0, none⟩) rs.length s ∧ S[o]? = some (.row 81 rw cs) ∧ (cs.drop (i * 5)).take 5 = r.cells ∧ i * 5 + 5 ≤ cs.length ∧ i < rs.length := by
  have hi := (List.getElem?_eq_some_iff.1 hm).1
  obtain ⟨o, s, rw, g1, g2, g3, g4⟩ := Sl.at h (i := i) (x := r.cells) (by simp [hm])
  exact ⟨o, s, rw, _, by rw [g1]; simp, g2, g3, g4, hi⟩
def Cmd.cells (c : Cmd) : List Value := [.int .u8 c.kind, .int .u8 c.key, .int .u16 c.val, .int .u16 c.old]
def Cmd.val_ (c : Cmd) : Value := .agg #[.int .u8 c.kind, .int .u8 c.key, .int .u16 c.val, .int .u16 c.old]
def frmC (f : Frm) (vm vr : Value) : List Value := [.int .u8 f.snd, .int .u32 f.rnd, .int .u8 f.mem, vm, .int .u8 f.c.kind, .int .u8 f.c.key, .int .u16 f.c.val, .int .u16 f.c.old, vr]
def frmV (f : Frm) (vm vr : Value) : Value := .agg #[.int .u8 f.snd, .int .u32 f.rnd, .int .u8 f.mem, vm, .int .u8 f.c.kind, .int .u8 f.c.key, .int .u16 f.c.val, .int .u16 f.c.old, vr]

theorem bd31_0 : buildA TT 31 [] = some (.agg #[.int .u8 0, .int .u8 0, .int .u16 0, .int .u16 0]) := by kernel_rfl
theorem ib (a b : Nat) : ((a : Int) == (b : Int)) = (a == b) := by
  rw [Bool.eq_iff_iff]
  simp only [beq_iff_eq]
  omega
theorem ib0 (a : Nat) : ((a : Int) == 0) = (a == 0) := ib a 0
theorem ib2 (a : Nat) : ((a : Int) == 2) = (a == 2) := ib a 2
theorem ib3 (a : Nat) : ((a : Int) == 3) = (a == 3) := ib a 3
theorem enter56 (cargs : Array Value) (w : World) : (callFunc 56 cargs).run Try.prog w = .ok (.enter 56 cargs) w := by kernel_rfl
theorem call56 (c : Cmd) (S : St) : ACalls Try.prog 56 [c.val_] S (fun x S' => Keeps S S' ∧ ErrC S' (chkC c) x) := by
  refine ACalls.of tok enter56 Try.func56 rfl (m := 37) rfl (by simp) (rs := [.tmp 2]) rfl fun hc ha => ?_
  clear ha
  obtain ⟨k, e, v, o⟩ := c
  simp only [Cmd.val_]
  refine AWp.seq_region tok fun K hK => ?_
  simp -implicitDefEqProofs only [vcT, wantedA, kp, kp2, kpS, kr, k1, k2, kL, kLP, kFn, kFn2, kSl, kSl2, kSl3, kC2, kP0, kP1, ev, evs, evParts, evO, Nat.reduceLT, Nat.reduceEqDiff, reduceIte, fr0, okConst, okc, appendA, cellsA, boxA, allocA, storeA, loadA, fieldA, indexA, fieldV, indexV, partA, extractA, nilA, binA, intBin, unA, lenA, isAggD, isConst, Nat.reduceAdd, Nat.reduceMul, Nat.reduceLeDiff, Nat.reduceSub, Nat.reduceBEq, splice, reduceCtorEq, Int.reduceEq, Int.reduceLT, Int.reduceLE, Int.reduceNeg, Int.reduceBEq, String.reduceEq, eqFlat, tf, aOpI]
  refine hK _ _ ?_
  clear hK
  refine AWp.seqK fun K0 hK0 => ?_
  refine AWp.block ?_
  refine AWp.seq_region tok fun K hK => ?_
  simp -implicitDefEqProofs only [vcT, wantedA, kp, kp2, kpS, kr, k1, k2, kL, kLP, kFn, kFn2, kSl, kSl2, kSl3, kC2, kP0, kP1, ev, evs, evParts, evO, Nat.reduceLT, Nat.reduceEqDiff, reduceIte, fr0, okConst, okc, appendA, cellsA, boxA, allocA, storeA, loadA, fieldA, indexA, fieldV, indexV, partA, extractA, nilA, binA, intBin, unA, lenA, isAggD, isConst, Nat.reduceAdd, Nat.reduceMul, Nat.reduceLeDiff, Nat.reduceSub, Nat.reduceBEq, splice, reduceCtorEq, Int.reduceEq, Int.reduceLT, Int.reduceLE, Int.reduceNeg, Int.reduceBEq, String.reduceEq, eqFlat, tf, aOpI, ty31, ty28]
  refine hK _ _ ?_
  clear hK
  refine AWp.condP ((k : Int) > 3) (by simp only [vcT, wantedA, kp, kp2, kpS, kr, k1, k2, kL, kLP, kFn, kFn2, kSl, kSl2, kSl3, kC2, kP0, kP1, ev, evs, evParts, evO, Nat.reduceLT, Nat.reduceEqDiff, reduceIte, fr0, okConst, okc, appendA, cellsA, boxA, allocA, storeA, loadA, fieldA, indexA, fieldV, indexV, partA, extractA, nilA, binA, intBin, unA, lenA, isAggD, isConst, Nat.reduceAdd, Nat.reduceMul, Nat.reduceLeDiff, Nat.reduceSub, Nat.reduceBEq, splice, reduceCtorEq, Int.reduceEq, Int.reduceLT, Int.reduceLE, Int.reduceNeg, Int.reduceBEq, String.reduceEq, eqFlat, tf, aOpI]) (fun h3 => ?_) (fun h3 => ?_)
  · refine AWp.seq_region tok fun K hK => ?_
    refine aList_cut 1 fun K1 hK1 => ?_
    simp -implicitDefEqProofs only [vcT, wantedA, kp, kp2, kpS, kr, k1, k2, kL, kLP, kFn, kFn2, kSl, kSl2, kSl3, kC2, kP0, kP1, ev, evs, evParts, evO, Nat.reduceLT, Nat.reduceEqDiff, reduceIte, fr0, okConst, okc, appendA, cellsA, boxA, allocA, storeA, loadA, fieldA, indexA, fieldV, indexV, partA, extractA, nilA, binA, intBin, unA, lenA, isAggD, isConst, Nat.reduceAdd, Nat.reduceMul, Nat.reduceLeDiff, Nat.reduceSub, Nat.reduceBEq, splice, reduceCtorEq, Int.reduceEq, Int.reduceLT, Int.reduceLE, Int.reduceNeg, Int.reduceBEq, String.reduceEq, eqFlat, tf, aOpI, Array.toList_empty, List.drop_succ_cons, List.drop_zero]
    refine (call28 7 (-1) (by decide) _).mono ?_
    rintro x S2 ⟨rfl, rfl⟩
    refine hK1 _ _ ?_
    clear hK1
    simp -implicitDefEqProofs only [vcT, wantedA, kp, kp2, kpS, kr, k1, k2, kL, kLP, kFn, kFn2, kSl, kSl2, kSl3, kC2, kP0, kP1, ev, evs, evParts, evO, Nat.reduceLT, Nat.reduceEqDiff, reduceIte, fr0, okConst, okc, appendA, cellsA, boxA, allocA, storeA, loadA, fieldA, indexA, fieldV, indexV, partA, extractA, nilA, binA, intBin, unA, lenA, isAggD, isConst, Nat.reduceAdd, Nat.reduceMul, Nat.reduceLeDiff, Nat.reduceSub, Nat.reduceBEq, splice, reduceCtorEq, Int.reduceEq, Int.reduceLT, Int.reduceLE, Int.reduceNeg, Int.reduceBEq, String.reduceEq, eqFlat, tf, aOpI, List.drop_succ_cons, List.drop_zero]
    refine hK _ _ ?_
    clear hK
    refine AWp.ret ?_
    simp -implicitDefEqProofs only [vcT, wantedA, kp, kp2, kpS, kr, k1, k2, kL, kLP, kFn, kFn2, kSl, kSl2, kSl3, kC2, kP0, kP1, ev, evs, evParts, evO, Nat.reduceLT, Nat.reduceEqDiff, reduceIte, fr0, okConst, okc, appendA, cellsA, boxA, allocA, storeA, loadA, fieldA, indexA, fieldV, indexV, partA, extractA, nilA, binA, intBin, unA, lenA, isAggD, isConst, Nat.reduceAdd, Nat.reduceMul, Nat.reduceLeDiff, Nat.reduceSub, Nat.reduceBEq, splice, reduceCtorEq, Int.reduceEq, Int.reduceLT, Int.reduceLE, Int.reduceNeg, Int.reduceBEq, String.reduceEq, eqFlat, tf, aOpI, ThenA, BlockA, EndA, ressA, resA, wrapA]
    have e1 : chkC ⟨k, e, v, o⟩ = [(7, -1)] := by unfold chkC; rw [if_pos (by dsimp only; omega)]
    rw [e1]
    exact ⟨Keeps.append _ _, _, _, rfl, by simp; rfl, rfl⟩
  refine AWp.seqK fun K1 hK1 => ?_
  have h3' : ¬ 3 < (⟨k, e, v, o⟩ : Cmd).kind := by dsimp only; omega
  have hT : (Cmd.bad ⟨k, e, v, o⟩ = true) → ∀ f, f 8 = .bool true → K1 f (S ++ [.row 31 true [.int .u8 k, .int .u8 e, .int .u16 v, .int .u16 o]]) := by
    intro hb f h8
    refine hK1 _ _ ?_
    refine AWp.condT (by simp -implicitDefEqProofs only [vcT, wantedA, kp, kp2, kpS, kr, k1, k2, kL, kLP, kFn, kFn2, kSl, kSl2, kSl3, kC2, kP0, kP1, ev, evs, evParts, evO, Nat.reduceLT, Nat.reduceEqDiff, reduceIte, fr0, okConst, okc, appendA, cellsA, boxA, allocA, storeA, loadA, fieldA, indexA, fieldV, indexV, partA, extractA, nilA, binA, intBin, unA, lenA, isAggD, isConst, Nat.reduceAdd, Nat.reduceMul, Nat.reduceLeDiff, Nat.reduceSub, Nat.reduceBEq, splice, reduceCtorEq, Int.reduceEq, Int.reduceLT, Int.reduceLE, Int.reduceNeg, Int.reduceBEq, String.reduceEq, eqFlat, tf, aOpI, h8]) ?_
    refine AWp.seq_region tok fun K hK => ?_
    refine aList_cut 1 fun K1 hK1 => ?_
    simp -implicitDefEqProofs only [vcT, wantedA, kp, kp2, kpS, kr, k1, k2, kL, kLP, kFn, kFn2, kSl, kSl2, kSl3, kC2, kP0, kP1, ev, evs, evParts, evO, Nat.reduceLT, Nat.reduceEqDiff, reduceIte, fr0, okConst, okc, appendA, cellsA, boxA, allocA, storeA, loadA, fieldA, indexA, fieldV, indexV, partA, extractA, nilA, binA, intBin, unA, lenA, isAggD, isConst, Nat.reduceAdd, Nat.reduceMul, Nat.reduceLeDiff, Nat.reduceSub, Nat.reduceBEq, splice, reduceCtorEq, Int.reduceEq, Int.reduceLT, Int.reduceLE, Int.reduceNeg, Int.reduceBEq, String.reduceEq, eqFlat, tf, aOpI, Array.toList_empty, List.drop_succ_cons, List.drop_zero, frL_cons]
    refine (call28 8 (-1) (by decide) _).mono ?_
    rintro x S2 ⟨rfl, rfl⟩
    refine hK1 _ _ ?_
    clear hK1
    simp -implicitDefEqProofs only [vcT, wantedA, kp, kp2, kpS, kr, k1, k2, kL, kLP, kFn, kFn2, kSl, kSl2, kSl3, kC2, kP0, kP1, ev, evs, evParts, evO, Nat.reduceLT, Nat.reduceEqDiff, reduceIte, fr0, okConst, okc, appendA, cellsA, boxA, allocA, storeA, loadA, fieldA, indexA, fieldV, indexV, partA, extractA, nilA, binA, intBin, unA, lenA, isAggD, isConst, Nat.reduceAdd, Nat.reduceMul, Nat.reduceLeDiff, Nat.reduceSub, Nat.reduceBEq, splice, reduceCtorEq, Int.reduceEq, Int.reduceLT, Int.reduceLE, Int.reduceNeg, Int.reduceBEq, String.reduceEq, eqFlat, tf, aOpI, List.drop_succ_cons, List.drop_zero, frL_cons]
    refine hK _ _ ?_
    clear hK
    refine AWp.ret ?_
    simp -implicitDefEqProofs only [vcT, wantedA, kp, kp2, kpS, kr, k1, k2, kL, kLP, kFn, kFn2, kSl, kSl2, kSl3, kC2, kP0, kP1, ev, evs, evParts, evO, Nat.reduceLT, Nat.reduceEqDiff, reduceIte, fr0, okConst, okc, appendA, cellsA, boxA, allocA, storeA, loadA, fieldA, indexA, fieldV, indexV, partA, extractA, nilA, binA, intBin, unA, lenA, isAggD, isConst, Nat.reduceAdd, Nat.reduceMul, Nat.reduceLeDiff, Nat.reduceSub, Nat.reduceBEq, splice, reduceCtorEq, Int.reduceEq, Int.reduceLT, Int.reduceLE, Int.reduceNeg, Int.reduceBEq, String.reduceEq, eqFlat, tf, aOpI, ThenA, BlockA, EndA, ressA, resA, wrapA, frL_cons]
    have e1 : chkC ⟨k, e, v, o⟩ = [(8, -1)] := by unfold chkC; rw [if_neg h3', if_pos hb]
    rw [e1]
    exact ⟨Keeps.append _ _, _, _, rfl, by simp; rfl, rfl⟩
  have hF : (Cmd.bad ⟨k, e, v, o⟩ = false) → ∀ f, f 8 = .bool false → K1 f (S ++ [.row 31 true [.int .u8 k, .int .u8 e, .int .u16 v, .int .u16 o]]) := by
    intro hb f h8
    refine hK1 _ _ ?_
    refine AWp.condF (by simp -implicitDefEqProofs only [vcT, wantedA, kp, kp2, kpS, kr, k1, k2, kL, kLP, kFn, kFn2, kSl, kSl2, kSl3, kC2, kP0, kP1, ev, evs, evParts, evO, Nat.reduceLT, Nat.reduceEqDiff, reduceIte, fr0, okConst, okc, appendA, cellsA, boxA, allocA, storeA, loadA, fieldA, indexA, fieldV, indexV, partA, extractA, nilA, binA, intBin, unA, lenA, isAggD, isConst, Nat.reduceAdd, Nat.reduceMul, Nat.reduceLeDiff, Nat.reduceSub, Nat.reduceBEq, splice, reduceCtorEq, Int.reduceEq, Int.reduceLT, Int.reduceLE, Int.reduceNeg, Int.reduceBEq, String.reduceEq, eqFlat, tf, aOpI, h8]) ?_
    refine AWp.skip ?_
    refine hK0 _ _ ?_
    clear hK0
    refine AWp.seq_region tok fun K hK => ?_
    simp -implicitDefEqProofs only [vcT, wantedA, kp, kp2, kpS, kr, k1, k2, kL, kLP, kFn, kFn2, kSl, kSl2, kSl3, kC2, kP0, kP1, ev, evs, evParts, evO, Nat.reduceLT, Nat.reduceEqDiff, reduceIte, fr0, okConst, okc, appendA, cellsA, boxA, allocA, storeA, loadA, fieldA, indexA, fieldV, indexV, partA, extractA, nilA, binA, intBin, unA, lenA, isAggD, isConst, Nat.reduceAdd, Nat.reduceMul, Nat.reduceLeDiff, Nat.reduceSub, Nat.reduceBEq, splice, reduceCtorEq, Int.reduceEq, Int.reduceLT, Int.reduceLE, Int.reduceNeg, Int.reduceBEq, String.reduceEq, eqFlat, tf, aOpI, frL_cons]
    refine hK _ _ ?_
    clear hK
    refine AWp.ret ?_
    simp -implicitDefEqProofs only [vcT, wantedA, kp, kp2, kpS, kr, k1, k2, kL, kLP, kFn, kFn2, kSl, kSl2, kSl3, kC2, kP0, kP1, ev, evs, evParts, evO, Nat.reduceLT, Nat.reduceEqDiff, reduceIte, fr0, okConst, okc, appendA, cellsA, boxA, allocA, storeA, loadA, fieldA, indexA, fieldV, indexV, partA, extractA, nilA, binA, intBin, unA, lenA, isAggD, isConst, Nat.reduceAdd, Nat.reduceMul, Nat.reduceLeDiff, Nat.reduceSub, Nat.reduceBEq, splice, reduceCtorEq, Int.reduceEq, Int.reduceLT, Int.reduceLE, Int.reduceNeg, Int.reduceBEq, String.reduceEq, eqFlat, tf, aOpI, ThenA, BlockA, EndA, ressA, resA, wrapA, frL_cons]
    have e1 : chkC ⟨k, e, v, o⟩ = [] := by unfold chkC; rw [if_neg h3', if_neg (by rw [hb]; decide)]
    rw [e1]
    exact ⟨Keeps.append _ _, rfl⟩
  clear hK1 hK0
  have q0 := ib0 k
  have q1 := ib0 e
  have q2 := ib0 v
  have q3 := ib0 o
  have q4 := ib3 k
  have q5 := ib2 k
  have q6 : ((e : Int) ≥ 8) = (8 ≤ e) := by simp only [ge_iff_le, eq_iff_iff]; omega
  have n5 : ((o : Int) != 0) = !(o == 0) := by rw [bne, q3]
  have n6 : ((v : Int) != 0) = !(v == 0) := by rw [bne, q2]
  have n4 : ((k : Int) != 3) = !(k == 3) := by rw [bne, q4]
  rcases Bool.eq_false_or_eq_true (k == 0) with hk | hk
  · rw [hk] at q0
    refine AWp.seq_region tok fun K hK => ?_
    simp -implicitDefEqProofs only [vcT, wantedA, kp, kp2, kpS, kr, k1, k2, kL, kLP, kFn, kFn2, kSl, kSl2, kSl3, kC2, kP0, kP1, ev, evs, evParts, evO, Nat.reduceLT, Nat.reduceEqDiff, reduceIte, fr0, okConst, okc, appendA, cellsA, boxA, allocA, storeA, loadA, fieldA, indexA, fieldV, indexV, partA, extractA, nilA, binA, intBin, unA, lenA, isAggD, isConst, Nat.reduceAdd, Nat.reduceMul, Nat.reduceLeDiff, Nat.reduceSub, Nat.reduceBEq, splice, reduceCtorEq, Int.reduceEq, Int.reduceLT, Int.reduceLE, Int.reduceNeg, Int.reduceBEq, String.reduceEq, eqFlat, tf, aOpI, q0, q1, q2, q3, bd31_0, ty31, ty28, ty29, ty5]
    refine hK _ _ ?_
    clear hK
    refine AWp.condB (!(e == 0 && (v == 0 && (o == 0 && true)))) (by simp -implicitDefEqProofs only [vcT, wantedA, kp, kp2, kpS, kr, k1, k2, kL, kLP, kFn, kFn2, kSl, kSl2, kSl3, kC2, kP0, kP1, ev, evs, evParts, evO, Nat.reduceLT, Nat.reduceEqDiff, reduceIte, fr0, okConst, okc, appendA, cellsA, boxA, allocA, storeA, loadA, fieldA, indexA, fieldV, indexV, partA, extractA, nilA, binA, intBin, unA, lenA, isAggD, isConst, Nat.reduceAdd, Nat.reduceMul, Nat.reduceLeDiff, Nat.reduceSub, Nat.reduceBEq, splice, reduceCtorEq, Int.reduceEq, Int.reduceLT, Int.reduceLE, Int.reduceNeg, Int.reduceBEq, String.reduceEq, eqFlat, tf, aOpI]) (fun hx => ?_) (fun hx => ?_)
    · refine AWp.skip ?_
      refine hT ?_ _ (by simp -implicitDefEqProofs only [vcT, wantedA, kp, kp2, kpS, kr, k1, k2, kL, kLP, kFn, kFn2, kSl, kSl2, kSl3, kC2, kP0, kP1, ev, evs, evParts, evO, Nat.reduceLT, Nat.reduceEqDiff, reduceIte, fr0, okConst, okc, appendA, cellsA, boxA, allocA, storeA, loadA, fieldA, indexA, fieldV, indexV, partA, extractA, nilA, binA, intBin, unA, lenA, isAggD, isConst, Nat.reduceAdd, Nat.reduceMul, Nat.reduceLeDiff, Nat.reduceSub, Nat.reduceBEq, splice, reduceCtorEq, Int.reduceEq, Int.reduceLT, Int.reduceLE, Int.reduceNeg, Int.reduceBEq, String.reduceEq, eqFlat, tf, aOpI]; simpa using hx)
      simp only [Cmd.bad, hk, Bool.and_true] at hx ⊢
      rw [← Bool.and_assoc] at hx
      rw [hx]
      rfl
    simp only [Bool.not_eq_false', Bool.and_eq_true] at hx
    obtain ⟨hez, hvz, hoz, _⟩ := hx
    refine AWp.seq_region tok fun K hK => ?_
    simp -implicitDefEqProofs only [vcT, wantedA, kp, kp2, kpS, kr, k1, k2, kL, kLP, kFn, kFn2, kSl, kSl2, kSl3, kC2, kP0, kP1, ev, evs, evParts, evO, Nat.reduceLT, Nat.reduceEqDiff, reduceIte, fr0, okConst, okc, appendA, cellsA, boxA, allocA, storeA, loadA, fieldA, indexA, fieldV, indexV, partA, extractA, nilA, binA, intBin, unA, lenA, isAggD, isConst, Nat.reduceAdd, Nat.reduceMul, Nat.reduceLeDiff, Nat.reduceSub, Nat.reduceBEq, splice, reduceCtorEq, Int.reduceEq, Int.reduceLT, Int.reduceLE, Int.reduceNeg, Int.reduceBEq, String.reduceEq, eqFlat, tf, aOpI, q6, ty31, ty28, ty29, ty5]
    refine hK _ _ ?_
    clear hK
    refine AWp.condP (8 ≤ e) (by simp -implicitDefEqProofs only [vcT, wantedA, kp, kp2, kpS, kr, k1, k2, kL, kLP, kFn, kFn2, kSl, kSl2, kSl3, kC2, kP0, kP1, ev, evs, evParts, evO, Nat.reduceLT, Nat.reduceEqDiff, reduceIte, fr0, okConst, okc, appendA, cellsA, boxA, allocA, storeA, loadA, fieldA, indexA, fieldV, indexV, partA, extractA, nilA, binA, intBin, unA, lenA, isAggD, isConst, Nat.reduceAdd, Nat.reduceMul, Nat.reduceLeDiff, Nat.reduceSub, Nat.reduceBEq, splice, reduceCtorEq, Int.reduceEq, Int.reduceLT, Int.reduceLE, Int.reduceNeg, Int.reduceBEq, String.reduceEq, eqFlat, tf, aOpI]) (fun he => ?_) (fun he => ?_)
    · refine AWp.skip ?_
      exact hT (by simp [Cmd.bad, he]) _ (by simp -implicitDefEqProofs only [vcT, wantedA, kp, kp2, kpS, kr, k1, k2, kL, kLP, kFn, kFn2, kSl, kSl2, kSl3, kC2, kP0, kP1, ev, evs, evParts, evO, Nat.reduceLT, Nat.reduceEqDiff, reduceIte, fr0, okConst, okc, appendA, cellsA, boxA, allocA, storeA, loadA, fieldA, indexA, fieldV, indexV, partA, extractA, nilA, binA, intBin, unA, lenA, isAggD, isConst, Nat.reduceAdd, Nat.reduceMul, Nat.reduceLeDiff, Nat.reduceSub, Nat.reduceBEq, splice, reduceCtorEq, Int.reduceEq, Int.reduceLT, Int.reduceLE, Int.reduceNeg, Int.reduceBEq, String.reduceEq, eqFlat, tf, aOpI]; simpa using he)
    have hk3 : (k == 3) = false := by simp at hk; subst hk; rfl
    have hk2 : (k == 2) = false := by simp at hk; subst hk; rfl
    refine AWp.seq_region tok fun K hK => ?_
    simp -implicitDefEqProofs only [vcT, wantedA, kp, kp2, kpS, kr, k1, k2, kL, kLP, kFn, kFn2, kSl, kSl2, kSl3, kC2, kP0, kP1, ev, evs, evParts, evO, Nat.reduceLT, Nat.reduceEqDiff, reduceIte, fr0, okConst, okc, appendA, cellsA, boxA, allocA, storeA, loadA, fieldA, indexA, fieldV, indexV, partA, extractA, nilA, binA, intBin, unA, lenA, isAggD, isConst, Nat.reduceAdd, Nat.reduceMul, Nat.reduceLeDiff, Nat.reduceSub, Nat.reduceBEq, splice, reduceCtorEq, Int.reduceEq, Int.reduceLT, Int.reduceLE, Int.reduceNeg, Int.reduceBEq, String.reduceEq, eqFlat, tf, aOpI, n4, n5, n6, hk3, hoz, Bool.not_true, Bool.not_false, ty31, ty28, ty29, ty5]
    refine hK _ _ ?_
    clear hK
    refine AWp.condF (by simp -implicitDefEqProofs only [vcT, wantedA, kp, kp2, kpS, kr, k1, k2, kL, kLP, kFn, kFn2, kSl, kSl2, kSl3, kC2, kP0, kP1, ev, evs, evParts, evO, Nat.reduceLT, Nat.reduceEqDiff, reduceIte, fr0, okConst, okc, appendA, cellsA, boxA, allocA, storeA, loadA, fieldA, indexA, fieldV, indexV, partA, extractA, nilA, binA, intBin, unA, lenA, isAggD, isConst, Nat.reduceAdd, Nat.reduceMul, Nat.reduceLeDiff, Nat.reduceSub, Nat.reduceBEq, splice, reduceCtorEq, Int.reduceEq, Int.reduceLT, Int.reduceLE, Int.reduceNeg, Int.reduceBEq, String.reduceEq, eqFlat, tf, aOpI]) ?_
    refine AWp.regionK tok fun K hK => ?_
    simp -implicitDefEqProofs only [vcT, wantedA, kp, kp2, kpS, kr, k1, k2, kL, kLP, kFn, kFn2, kSl, kSl2, kSl3, kC2, kP0, kP1, ev, evs, evParts, evO, Nat.reduceLT, Nat.reduceEqDiff, reduceIte, fr0, okConst, okc, appendA, cellsA, boxA, allocA, storeA, loadA, fieldA, indexA, fieldV, indexV, partA, extractA, nilA, binA, intBin, unA, lenA, isAggD, isConst, Nat.reduceAdd, Nat.reduceMul, Nat.reduceLeDiff, Nat.reduceSub, Nat.reduceBEq, splice, reduceCtorEq, Int.reduceEq, Int.reduceLT, Int.reduceLE, Int.reduceNeg, Int.reduceBEq, String.reduceEq, eqFlat, tf, aOpI, q5, hk2, n6, ty31, ty28, ty29]
    refine hK _ _ ?_
    clear hK
    exact hF (by simp only [Cmd.bad, bne, decide_eq_false he, hoz, hvz, hez, hk2, hk3, hk]; rfl) _ (by simp -implicitDefEqProofs only [vcT, wantedA, kp, kp2, kpS, kr, k1, k2, kL, kLP, kFn, kFn2, kSl, kSl2, kSl3, kC2, kP0, kP1, ev, evs, evParts, evO, Nat.reduceLT, Nat.reduceEqDiff, reduceIte, fr0, okConst, okc, appendA, cellsA, boxA, allocA, storeA, loadA, fieldA, indexA, fieldV, indexV, partA, extractA, nilA, binA, intBin, unA, lenA, isAggD, isConst, Nat.reduceAdd, Nat.reduceMul, Nat.reduceLeDiff, Nat.reduceSub, Nat.reduceBEq, splice, reduceCtorEq, Int.reduceEq, Int.reduceLT, Int.reduceLE, Int.reduceNeg, Int.reduceBEq, String.reduceEq, eqFlat, tf, aOpI])
  · rw [hk] at q0
    refine AWp.seq_region tok fun K hK => ?_
    simp -implicitDefEqProofs only [vcT, wantedA, kp, kp2, kpS, kr, k1, k2, kL, kLP, kFn, kFn2, kSl, kSl2, kSl3, kC2, kP0, kP1, ev, evs, evParts, evO, Nat.reduceLT, Nat.reduceEqDiff, reduceIte, fr0, okConst, okc, appendA, cellsA, boxA, allocA, storeA, loadA, fieldA, indexA, fieldV, indexV, partA, extractA, nilA, binA, intBin, unA, lenA, isAggD, isConst, Nat.reduceAdd, Nat.reduceMul, Nat.reduceLeDiff, Nat.reduceSub, Nat.reduceBEq, splice, reduceCtorEq, Int.reduceEq, Int.reduceLT, Int.reduceLE, Int.reduceNeg, Int.reduceBEq, String.reduceEq, eqFlat, tf, aOpI, q0, ty31, ty28, ty29, ty5]
    refine hK _ _ ?_
    clear hK
    refine AWp.condF (by simp -implicitDefEqProofs only [vcT, wantedA, kp, kp2, kpS, kr, k1, k2, kL, kLP, kFn, kFn2, kSl, kSl2, kSl3, kC2, kP0, kP1, ev, evs, evParts, evO, Nat.reduceLT, Nat.reduceEqDiff, reduceIte, fr0, okConst, okc, appendA, cellsA, boxA, allocA, storeA, loadA, fieldA, indexA, fieldV, indexV, partA, extractA, nilA, binA, intBin, unA, lenA, isAggD, isConst, Nat.reduceAdd, Nat.reduceMul, Nat.reduceLeDiff, Nat.reduceSub, Nat.reduceBEq, splice, reduceCtorEq, Int.reduceEq, Int.reduceLT, Int.reduceLE, Int.reduceNeg, Int.reduceBEq, String.reduceEq, eqFlat, tf, aOpI]) ?_
    refine AWp.seq_region tok fun K hK => ?_
    simp -implicitDefEqProofs only [vcT, wantedA, kp, kp2, kpS, kr, k1, k2, kL, kLP, kFn, kFn2, kSl, kSl2, kSl3, kC2, kP0, kP1, ev, evs, evParts, evO, Nat.reduceLT, Nat.reduceEqDiff, reduceIte, fr0, okConst, okc, appendA, cellsA, boxA, allocA, storeA, loadA, fieldA, indexA, fieldV, indexV, partA, extractA, nilA, binA, intBin, unA, lenA, isAggD, isConst, Nat.reduceAdd, Nat.reduceMul, Nat.reduceLeDiff, Nat.reduceSub, Nat.reduceBEq, splice, reduceCtorEq, Int.reduceEq, Int.reduceLT, Int.reduceLE, Int.reduceNeg, Int.reduceBEq, String.reduceEq, eqFlat, tf, aOpI, q6, ty31, ty28, ty29, ty5]
    refine hK _ _ ?_
    clear hK
    refine AWp.condP (8 ≤ e) (by simp -implicitDefEqProofs only [vcT, wantedA, kp, kp2, kpS, kr, k1, k2, kL, kLP, kFn, kFn2, kSl, kSl2, kSl3, kC2, kP0, kP1, ev, evs, evParts, evO, Nat.reduceLT, Nat.reduceEqDiff, reduceIte, fr0, okConst, okc, appendA, cellsA, boxA, allocA, storeA, loadA, fieldA, indexA, fieldV, indexV, partA, extractA, nilA, binA, intBin, unA, lenA, isAggD, isConst, Nat.reduceAdd, Nat.reduceMul, Nat.reduceLeDiff, Nat.reduceSub, Nat.reduceBEq, splice, reduceCtorEq, Int.reduceEq, Int.reduceLT, Int.reduceLE, Int.reduceNeg, Int.reduceBEq, String.reduceEq, eqFlat, tf, aOpI]) (fun he => ?_) (fun he => ?_)
    · refine AWp.skip ?_
      exact hT (by simp [Cmd.bad, he]) _ (by simp -implicitDefEqProofs only [vcT, wantedA, kp, kp2, kpS, kr, k1, k2, kL, kLP, kFn, kFn2, kSl, kSl2, kSl3, kC2, kP0, kP1, ev, evs, evParts, evO, Nat.reduceLT, Nat.reduceEqDiff, reduceIte, fr0, okConst, okc, appendA, cellsA, boxA, allocA, storeA, loadA, fieldA, indexA, fieldV, indexV, partA, extractA, nilA, binA, intBin, unA, lenA, isAggD, isConst, Nat.reduceAdd, Nat.reduceMul, Nat.reduceLeDiff, Nat.reduceSub, Nat.reduceBEq, splice, reduceCtorEq, Int.reduceEq, Int.reduceLT, Int.reduceLE, Int.reduceNeg, Int.reduceBEq, String.reduceEq, eqFlat, tf, aOpI]; simpa using he)
    rcases Bool.eq_false_or_eq_true (k == 3) with hk3 | hk3
    · have hk2 : (k == 2) = false := by simp at hk3; subst hk3; rfl
      refine AWp.seq_region tok fun K hK => ?_
      simp -implicitDefEqProofs only [vcT, wantedA, kp, kp2, kpS, kr, k1, k2, kL, kLP, kFn, kFn2, kSl, kSl2, kSl3, kC2, kP0, kP1, ev, evs, evParts, evO, Nat.reduceLT, Nat.reduceEqDiff, reduceIte, fr0, okConst, okc, appendA, cellsA, boxA, allocA, storeA, loadA, fieldA, indexA, fieldV, indexV, partA, extractA, nilA, binA, intBin, unA, lenA, isAggD, isConst, Nat.reduceAdd, Nat.reduceMul, Nat.reduceLeDiff, Nat.reduceSub, Nat.reduceBEq, splice, reduceCtorEq, Int.reduceEq, Int.reduceLT, Int.reduceLE, Int.reduceNeg, Int.reduceBEq, String.reduceEq, eqFlat, tf, aOpI, n4, n5, n6, hk3, Bool.not_true, Bool.not_false, ty31, ty28, ty29, ty5]
      refine hK _ _ ?_
      clear hK
      refine AWp.condF (by simp -implicitDefEqProofs only [vcT, wantedA, kp, kp2, kpS, kr, k1, k2, kL, kLP, kFn, kFn2, kSl, kSl2, kSl3, kC2, kP0, kP1, ev, evs, evParts, evO, Nat.reduceLT, Nat.reduceEqDiff, reduceIte, fr0, okConst, okc, appendA, cellsA, boxA, allocA, storeA, loadA, fieldA, indexA, fieldV, indexV, partA, extractA, nilA, binA, intBin, unA, lenA, isAggD, isConst, Nat.reduceAdd, Nat.reduceMul, Nat.reduceLeDiff, Nat.reduceSub, Nat.reduceBEq, splice, reduceCtorEq, Int.reduceEq, Int.reduceLT, Int.reduceLE, Int.reduceNeg, Int.reduceBEq, String.reduceEq, eqFlat, tf, aOpI]) ?_
      refine AWp.regionK tok fun K hK => ?_
      simp -implicitDefEqProofs only [vcT, wantedA, kp, kp2, kpS, kr, k1, k2, kL, kLP, kFn, kFn2, kSl, kSl2, kSl3, kC2, kP0, kP1, ev, evs, evParts, evO, Nat.reduceLT, Nat.reduceEqDiff, reduceIte, fr0, okConst, okc, appendA, cellsA, boxA, allocA, storeA, loadA, fieldA, indexA, fieldV, indexV, partA, extractA, nilA, binA, intBin, unA, lenA, isAggD, isConst, Nat.reduceAdd, Nat.reduceMul, Nat.reduceLeDiff, Nat.reduceSub, Nat.reduceBEq, splice, reduceCtorEq, Int.reduceEq, Int.reduceLT, Int.reduceLE, Int.reduceNeg, Int.reduceBEq, String.reduceEq, eqFlat, tf, aOpI, q5, hk2, n6, ty31, ty28, ty29]
      refine hK _ _ ?_
      clear hK
      exact hF (by simp only [Cmd.bad, bne, decide_eq_false he, hk2, hk3, hk]; rfl) _ (by simp -implicitDefEqProofs only [vcT, wantedA, kp, kp2, kpS, kr, k1, k2, kL, kLP, kFn, kFn2, kSl, kSl2, kSl3, kC2, kP0, kP1, ev, evs, evParts, evO, Nat.reduceLT, Nat.reduceEqDiff, reduceIte, fr0, okConst, okc, appendA, cellsA, boxA, allocA, storeA, loadA, fieldA, indexA, fieldV, indexV, partA, extractA, nilA, binA, intBin, unA, lenA, isAggD, isConst, Nat.reduceAdd, Nat.reduceMul, Nat.reduceLeDiff, Nat.reduceSub, Nat.reduceBEq, splice, reduceCtorEq, Int.reduceEq, Int.reduceLT, Int.reduceLE, Int.reduceNeg, Int.reduceBEq, String.reduceEq, eqFlat, tf, aOpI])
    · refine AWp.seq_region tok fun K hK => ?_
      simp -implicitDefEqProofs only [vcT, wantedA, kp, kp2, kpS, kr, k1, k2, kL, kLP, kFn, kFn2, kSl, kSl2, kSl3, kC2, kP0, kP1, ev, evs, evParts, evO, Nat.reduceLT, Nat.reduceEqDiff, reduceIte, fr0, okConst, okc, appendA, cellsA, boxA, allocA, storeA, loadA, fieldA, indexA, fieldV, indexV, partA, extractA, nilA, binA, intBin, unA, lenA, isAggD, isConst, Nat.reduceAdd, Nat.reduceMul, Nat.reduceLeDiff, Nat.reduceSub, Nat.reduceBEq, splice, reduceCtorEq, Int.reduceEq, Int.reduceLT, Int.reduceLE, Int.reduceNeg, Int.reduceBEq, String.reduceEq, eqFlat, tf, aOpI, n4, n5, n6, hk3, Bool.not_true, Bool.not_false, ty31, ty28, ty29, ty5]
      refine hK _ _ ?_
      clear hK
      refine AWp.condB (!(o == 0)) (by simp -implicitDefEqProofs only [vcT, wantedA, kp, kp2, kpS, kr, k1, k2, kL, kLP, kFn, kFn2, kSl, kSl2, kSl3, kC2, kP0, kP1, ev, evs, evParts, evO, Nat.reduceLT, Nat.reduceEqDiff, reduceIte, fr0, okConst, okc, appendA, cellsA, boxA, allocA, storeA, loadA, fieldA, indexA, fieldV, indexV, partA, extractA, nilA, binA, intBin, unA, lenA, isAggD, isConst, Nat.reduceAdd, Nat.reduceMul, Nat.reduceLeDiff, Nat.reduceSub, Nat.reduceBEq, splice, reduceCtorEq, Int.reduceEq, Int.reduceLT, Int.reduceLE, Int.reduceNeg, Int.reduceBEq, String.reduceEq, eqFlat, tf, aOpI]) (fun ho => ?_) (fun ho => ?_)
      · refine AWp.skip ?_
        simp only [Bool.not_eq_true'] at ho
        exact hT (by simp only [Cmd.bad, bne, decide_eq_false he, hk3, hk, ho]; rfl) _ (by simp -implicitDefEqProofs only [vcT, wantedA, kp, kp2, kpS, kr, k1, k2, kL, kLP, kFn, kFn2, kSl, kSl2, kSl3, kC2, kP0, kP1, ev, evs, evParts, evO, Nat.reduceLT, Nat.reduceEqDiff, reduceIte, fr0, okConst, okc, appendA, cellsA, boxA, allocA, storeA, loadA, fieldA, indexA, fieldV, indexV, partA, extractA, nilA, binA, intBin, unA, lenA, isAggD, isConst, Nat.reduceAdd, Nat.reduceMul, Nat.reduceLeDiff, Nat.reduceSub, Nat.reduceBEq, splice, reduceCtorEq, Int.reduceEq, Int.reduceLT, Int.reduceLE, Int.reduceNeg, Int.reduceBEq, String.reduceEq, eqFlat, tf, aOpI]; simp [ho])
      simp only [Bool.not_eq_false'] at ho
      rcases Bool.eq_false_or_eq_true (k == 2) with hk2 | hk2
      · skip
        rcases Bool.eq_false_or_eq_true (v == 0) with hv | hv
        · refine AWp.regionK tok fun K hK => ?_
          simp -implicitDefEqProofs only [vcT, wantedA, kp, kp2, kpS, kr, k1, k2, kL, kLP, kFn, kFn2, kSl, kSl2, kSl3, kC2, kP0, kP1, ev, evs, evParts, evO, Nat.reduceLT, Nat.reduceEqDiff, reduceIte, fr0, okConst, okc, appendA, cellsA, boxA, allocA, storeA, loadA, fieldA, indexA, fieldV, indexV, partA, extractA, nilA, binA, intBin, unA, lenA, isAggD, isConst, Nat.reduceAdd, Nat.reduceMul, Nat.reduceLeDiff, Nat.reduceSub, Nat.reduceBEq, splice, reduceCtorEq, Int.reduceEq, Int.reduceLT, Int.reduceLE, Int.reduceNeg, Int.reduceBEq, String.reduceEq, eqFlat, tf, aOpI, q5, hk2, n6, hv, Bool.not_true, Bool.not_false, ty31, ty28, ty29]
          refine hK _ _ ?_
          clear hK
          exact hF (by simp only [Cmd.bad, bne, hv, decide_eq_false he, hk2, hk3, hk, ho]; rfl) _ (by simp -implicitDefEqProofs only [vcT, wantedA, kp, kp2, kpS, kr, k1, k2, kL, kLP, kFn, kFn2, kSl, kSl2, kSl3, kC2, kP0, kP1, ev, evs, evParts, evO, Nat.reduceLT, Nat.reduceEqDiff, reduceIte, fr0, okConst, okc, appendA, cellsA, boxA, allocA, storeA, loadA, fieldA, indexA, fieldV, indexV, partA, extractA, nilA, binA, intBin, unA, lenA, isAggD, isConst, Nat.reduceAdd, Nat.reduceMul, Nat.reduceLeDiff, Nat.reduceSub, Nat.reduceBEq, splice, reduceCtorEq, Int.reduceEq, Int.reduceLT, Int.reduceLE, Int.reduceNeg, Int.reduceBEq, String.reduceEq, eqFlat, tf, aOpI])
        · refine AWp.regionK tok fun K hK => ?_
          simp -implicitDefEqProofs only [vcT, wantedA, kp, kp2, kpS, kr, k1, k2, kL, kLP, kFn, kFn2, kSl, kSl2, kSl3, kC2, kP0, kP1, ev, evs, evParts, evO, Nat.reduceLT, Nat.reduceEqDiff, reduceIte, fr0, okConst, okc, appendA, cellsA, boxA, allocA, storeA, loadA, fieldA, indexA, fieldV, indexV, partA, extractA, nilA, binA, intBin, unA, lenA, isAggD, isConst, Nat.reduceAdd, Nat.reduceMul, Nat.reduceLeDiff, Nat.reduceSub, Nat.reduceBEq, splice, reduceCtorEq, Int.reduceEq, Int.reduceLT, Int.reduceLE, Int.reduceNeg, Int.reduceBEq, String.reduceEq, eqFlat, tf, aOpI, q5, hk2, n6, hv, Bool.not_true, Bool.not_false, ty31, ty28, ty29]
          refine hK _ _ ?_
          clear hK
          exact hT (by simp only [Cmd.bad, bne, hv, decide_eq_false he, hk2, hk3, hk, ho]; rfl) _ (by simp -implicitDefEqProofs only [vcT, wantedA, kp, kp2, kpS, kr, k1, k2, kL, kLP, kFn, kFn2, kSl, kSl2, kSl3, kC2, kP0, kP1, ev, evs, evParts, evO, Nat.reduceLT, Nat.reduceEqDiff, reduceIte, fr0, okConst, okc, appendA, cellsA, boxA, allocA, storeA, loadA, fieldA, indexA, fieldV, indexV, partA, extractA, nilA, binA, intBin, unA, lenA, isAggD, isConst, Nat.reduceAdd, Nat.reduceMul, Nat.reduceLeDiff, Nat.reduceSub, Nat.reduceBEq, splice, reduceCtorEq, Int.reduceEq, Int.reduceLT, Int.reduceLE, Int.reduceNeg, Int.reduceBEq, String.reduceEq, eqFlat, tf, aOpI])
      · skip
        refine AWp.regionK tok fun K hK => ?_
        simp -implicitDefEqProofs only [vcT, wantedA, kp, kp2, kpS, kr, k1, k2, kL, kLP, kFn, kFn2, kSl, kSl2, kSl3, kC2, kP0, kP1, ev, evs, evParts, evO, Nat.reduceLT, Nat.reduceEqDiff, reduceIte, fr0, okConst, okc, appendA, cellsA, boxA, allocA, storeA, loadA, fieldA, indexA, fieldV, indexV, partA, extractA, nilA, binA, intBin, unA, lenA, isAggD, isConst, Nat.reduceAdd, Nat.reduceMul, Nat.reduceLeDiff, Nat.reduceSub, Nat.reduceBEq, splice, reduceCtorEq, Int.reduceEq, Int.reduceLT, Int.reduceLE, Int.reduceNeg, Int.reduceBEq, String.reduceEq, eqFlat, tf, aOpI, q5, hk2, n6, ty31, ty28, ty29]
        refine hK _ _ ?_
        clear hK
        exact hF (by simp only [Cmd.bad, bne, decide_eq_false he, hk2, hk3, hk, ho]; rfl) _ (by simp -implicitDefEqProofs only [vcT, wantedA, kp, kp2, kpS, kr, k1, k2, kL, kLP, kFn, kFn2, kSl, kSl2, kSl3, kC2, kP0, kP1, ev, evs, evParts, evO, Nat.reduceLT, Nat.reduceEqDiff, reduceIte, fr0, okConst, okc, appendA, cellsA, boxA, allocA, storeA, loadA, fieldA, indexA, fieldV, indexV, partA, extractA, nilA, binA, intBin, unA, lenA, isAggD, isConst, Nat.reduceAdd, Nat.reduceMul, Nat.reduceLeDiff, Nat.reduceSub, Nat.reduceBEq, splice, reduceCtorEq, Int.reduceEq, Int.reduceLT, Int.reduceLE, Int.reduceNeg, Int.reduceBEq, String.reduceEq, eqFlat, tf, aOpI])
end Go.Proofs.Ytpgiiidnimbdgaa
