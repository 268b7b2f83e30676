/- What reading tables comes to; how tables lie while they are read. -/
import Derived.Test.YtpgiiidnimbdgaaAbF33
namespace Go.Proofs.Ytpgiiidnimbdgaa
open Go.Ab
set_option linter.unusedSimpArgs false
set_option linter.unusedVariables false
set_option maxRecDepth 4000

def zT : Cf := ⟨0, 0, 0, 0, 0, 0, 0, 0, [], [], []⟩
def nilS : Value := .slice none 0 0
/-- Numbers taken one behind the other, each of so many bytes. -/
def tk : List Nat → Rd → List Nat × Rd
  | [], r => ([], r)
  | k :: ks, r => (r.takeV k :: (tk ks (r.takeR k)).1, (tk ks (r.takeR k)).2)
def rdPt (r : Rd) : Pt := ⟨((r.takeV 1 : Nat) : Int), (((r.takeR 1).takeV 4 : Nat) : Int), ((((r.takeR 1).takeR 4).takeV 4 : Nat) : Int), (((((r.takeR 1).takeR 4).takeR 4).takeV 1 : Nat) : Int), ((((((r.takeR 1).takeR 4).takeR 4).takeR 1).takeV 1 : Nat) : Int),
  (((((r.takeR 1).takeR 4).takeR 4).takeR 1).takeR 1).takeV 1, ((((((r.takeR 1).takeR 4).takeR 4).takeR 1).takeR 1).takeR 1).takeV 1, (((((((r.takeR 1).takeR 4).takeR 4).takeR 1).takeR 1).takeR 1).takeR 1).takeV 1, ((((((((r.takeR 1).takeR 4).takeR 4).takeR 1).takeR 1).takeR 1).takeR 1).takeR 1).takeV 1⟩
def rdPtR (r : Rd) : Rd := ((((((((r.takeR 1).takeR 4).takeR 4).takeR 1).takeR 1).takeR 1).takeR 1).takeR 1).takeR 1
def rdPs : Nat → Rd → List Pt → List Pt × Rd
  | 0, r, ps => (ps, r)
  | n + 1, r, ps => if r.err = none then rdPs n (rdPtR r) (ps ++ [rdPt r]) else (ps, r)
def rdQt (r : Rd) : Qt := ⟨((r.takeV 1 : Nat) : Int), (r.takeR 1).takeV 1, decide (((r.takeR 1).takeR 1).takeV 1 = 1), (((((r.takeR 1).takeR 1).takeR 1).takeV 1 : Nat) : Int), ((((((r.takeR 1).takeR 1).takeR 1).takeR 1).takeV 1 : Nat) : Int), (((((((r.takeR 1).takeR 1).takeR 1).takeR 1).takeR 1).takeV 1 : Nat) : Int)⟩
def rdQtW (r : Rd) : Nat := ((r.takeR 1).takeR 1).takeV 1
def rdQtM (r : Rd) : Rd := ((r.takeR 1).takeR 1).takeR 1
def rdQtR (r : Rd) : Rd := (((rdQtM r).takeR 1).takeR 1).takeR 1
/-- Ports; where one is odd, its number. -/
def rdQs : Nat → Nat → Rd → List Qt → List Qt × Rd × Option Nat
  | 0, _, r, qs => (qs, r, none)
  | n + 1, i, r, qs => if r.err = none then (if 1 < rdQtW r ∧ (rdQtM r).err = none then (qs, rdQtM r, some i) else rdQs n (i + 1) (rdQtR r) (qs ++ [rdQt r])) else (qs, r, none)
def rdRt (r : Rd) : Rt := ⟨((r.takeV 1 : Nat) : Int), (((r.takeR 1).takeV 1 : Nat) : Int)⟩
def rdRts : Nat → Rd → List Rt → List Rt × Rd
  | 0, r, rs => (rs, r)
  | n + 1, r, rs => if r.err = none then rdRts n ((r.takeR 1).takeR 1) (rs ++ [rdRt r]) else (rs, r)
def rdHd (r : Rd) : Cf := ⟨((r.takeV 1 : Nat) : Int), (((r.takeR 1).takeV 1 : Nat) : Int), ((((r.takeR 1).takeR 1).takeV 4 : Nat) : Int), (((((r.takeR 1).takeR 1).takeR 4).takeV 4 : Nat) : Int), ((((((r.takeR 1).takeR 1).takeR 4).takeR 4).takeV 4 : Nat) : Int),
  (((((((r.takeR 1).takeR 1).takeR 4).takeR 4).takeR 4).takeV 4 : Nat) : Int), ((((((((r.takeR 1).takeR 1).takeR 4).takeR 4).takeR 4).takeR 4).takeV 4 : Nat) : Int), (((((((((r.takeR 1).takeR 1).takeR 4).takeR 4).takeR 4).takeR 4).takeR 4).takeV 4 : Nat) : Int), [], [], []⟩
def rdHdR (r : Rd) : Rd := (((((((r.takeR 1).takeR 1).takeR 4).takeR 4).takeR 4).takeR 4).takeR 4).takeR 4
/-- Behind the counts. -/
def rdBody (c : Cf) (n0 n1 n2 : Nat) (r : Rd) : Cf × List (Int × Int) × Rd :=
  match rdQs n1 0 (rdPs n0 r []).2 [] with
  | (_, r2, some i) => (zT, [(8, (i : Int))], r2)
  | (qs, r2, none) => ({ c with ps := (rdPs n0 r []).1, qs := qs, rs := (rdRts n2 r2 []).1 }, [], (rdRts n2 r2 []).2)
def rdT (r : Rd) : Cf × List (Int × Int) × Rd :=
  if r.takeV 4 ≠ 1163084593 ∧ (r.takeR 4).err = none then (zT, [(7, 0)], r.takeR 4)
  else rdBody (rdHd (r.takeR 4)) ((rdHdR (r.takeR 4)).takeV 1) (((rdHdR (r.takeR 4)).takeR 1).takeV 1) ((((rdHdR (r.takeR 4)).takeR 1).takeR 1).takeV 1) ((((rdHdR (r.takeR 4)).takeR 1).takeR 1).takeR 1)
def decTE (p : Cf × List (Int × Int) × Rd) : Cf × List (Int × Int) := match thenE p.2.1 (thenE p.2.2.endE (chkT p.1)) with
  | [] => (p.1, [])
  | e :: es => (zT, (60, (p.2.2.at_ : Int)) :: e :: es)
def decT (l : List Nat) : Cf × List (Int × Int) :=
  if 4096 < l.length then (zT, [(60, -1), (3, -1)])
  else match openB l with
    | none => (zT, [(60, -1), (6, -1)])
    | some inn => decTE (rdT ⟨inn, 0, none⟩)

/-! lists that grow -/
def GrX (ty : TypeId) (sz : Nat) (S : St) (n : Nat) (v : Value) (xs : List (List Value)) : Prop := (∀ x ∈ xs, x.length = sz) ∧ ((v = nilS ∧ xs = []) ∨ ∃ o, n ≤ o ∧ v = .slice (some ⟨o, 0, none⟩) xs.length sz ∧ S[o]? = some (.row ty true xs.flatten))
section
variable {ty : TypeId} {sz n : Nat} {S S' : St} {v : Value} {xs : List (List Value)}
theorem GrX.sl (h : GrX ty sz S n v xs) : Sl S ty sz v xs := ⟨h.1, by
  rcases h.2 with ⟨h1, h2⟩ | ⟨o, h1, h2, h3⟩
  · exact .inl ⟨h1, h2⟩
  · exact .inr ⟨o, sz, true, h2, h3, .inr rfl⟩⟩
theorem GrX.keep (h : GrX ty sz S n v xs) (hk : ∀ o, n ≤ o → v = .slice (some ⟨o, 0, none⟩) xs.length sz → S[o]? = some (.row ty true xs.flatten) → S'[o]? = some (.row ty true xs.flatten)) : GrX ty sz S' n v xs :=
  ⟨h.1, h.2.imp id fun ⟨o, h1, h2, h3⟩ => ⟨o, h1, h2, hk o h1 h2 h3⟩⟩
theorem GrX.one (h : GrX ty sz S n v xs) : solid v = true ∧ v.cells = #[v] := h.sl.one
theorem GrX.flat (h : GrX ty sz S n v xs) : xs.flatten.length = xs.length * sz := by
  have hw := h.1
  clear h
  induction xs with
  | nil => simp
  | cons x xs ih => rw [List.flatten_cons, List.length_append, hw x (by simp), ih fun y hy => hw y (by simp [hy]), List.length_cons, Nat.succ_mul, Nat.add_comm]
end
/-- All objects but lists of one kind stand. -/
def ModL (n : Nat) (ty : TypeId) (S S' : St) : Prop := S.length ≤ S'.length ∧ (∀ (j : Nat), j < n → S'[j]? = S[j]?) ∧ ∀ (j : Nat) (ty' : TypeId) (rw : Bool) (cs : List Value), S[j]? = some (AObj.row ty' rw cs) → ty' ≠ ty → S'[j]? = some (AObj.row ty' rw cs)
theorem ModL.append (n : Nat) (ty : TypeId) (S R : St) (hn : n ≤ S.length) : ModL n ty S (S ++ R) := ⟨by simp, fun j hj => List.getElem?_append_left (by omega), fun j ty' rw cs hj _ => at_old hj R⟩
theorem ModL.set {n o : Nat} {ty : TypeId} {S : St} {x y : AObj} {rw : Bool} {cs : List Value} (ho : S[o]? = some (.row ty rw cs)) (hn : n ≤ o) : ModL n ty S (S.set o x ++ [y]) :=
  ⟨by simp, fun j hj => by
    have := (List.getElem?_eq_some_iff.1 ho).1
    rw [List.getElem?_append_left (by simp; omega), List.getElem?_set_ne (by omega)], fun j ty' rw' cs' hj hne => set_snoc_old hj (fun e => by
    subst e
    rw [ho] at hj
    cases hj
    exact hne rfl)⟩
theorem gr108 {S : St} {n : Nat} {v : Value} {ps : List Pt} (h : GrX 108 9 S n v (ps.map Pt.cells)) (hn : n ≤ S.length) {x : Nat} {p : Pt} (hx : S[x]? = some (.row 108 true p.cells)) (hl : ps.length ≤ 1000) :
    ∃ u S2, appendA TT S 52 v (.slice (some ⟨x, 0, none⟩) 1 9) = some (u, S2) ∧ GrX 108 9 S2 n u ((ps ++ [p]).map Pt.cells) ∧ ModL n 108 S S2 := by
  have hc : cellsA S 9 (.slice (some ⟨x, 0, none⟩) 1 9) = some (1, p.cells) := by simp [cellsA, hx, Pt.cells]
  have hw : ∀ x ∈ (ps ++ [p]).map Pt.cells, x.length = 9 := fun x hx => by
    obtain ⟨p, _, rfl⟩ := List.mem_map.1 hx
    rfl
  have hcl := h.flat
  rw [List.length_map] at hcl
  rcases h.2 with ⟨rfl, hnil⟩ | ⟨o, h1, rfl, h2⟩
  · obtain rfl : ps = [] := by simpa using hnil
    refine ⟨.slice (some ⟨S.length, 0, none⟩) 1 9, S ++ [.row 108 true p.cells], ?_, ⟨hw, .inr ⟨S.length, hn, rfl, by simp⟩⟩, ModL.append _ _ _ _ hn⟩
    simp only [nilS, appendA, ty52, ty108, hc]
    simp [Value.cells]
  · have hm := ModL.set (y := .row 108 true ((ps ++ [p]).map Pt.cells).flatten) (x := .dead) h2 h1
    refine ⟨.slice (some ⟨S.length, 0, none⟩) (ps.length + 1) 9, S.set o .dead ++ [.row 108 true ((ps ++ [p]).map Pt.cells).flatten], ?_, ⟨hw, .inr ⟨S.length, hn, by simp, set_snoc_get⟩⟩, hm⟩
    have e1 : (ps.map Pt.cells).flatten.take (ps.length * 9) = (ps.map Pt.cells).flatten := by rw [← hcl, List.take_length]
    have e2 : ps.length * 9 ≤ (ps.map Pt.cells).flatten.length := by omega
    have e3 : (ps.length + 1) * 48 ≤ 140737488355328 := by omega
    have e4 : ps.length + 1 ≤ 9223372036854775807 := by omega
    simp only [appendA, ty52, ty108, hc, h2, e1, e2, e3, e4, List.length_map]
    simp [Value.cells]
theorem gr111 {S : St} {n : Nat} {v : Value} {ps : List Qt} (h : GrX 111 6 S n v (ps.map Qt.cells)) (hn : n ≤ S.length) {x : Nat} {p : Qt} (hx : S[x]? = some (.row 111 true p.cells)) (hl : ps.length ≤ 1000) :
    ∃ u S2, appendA TT S 53 v (.slice (some ⟨x, 0, none⟩) 1 6) = some (u, S2) ∧ GrX 111 6 S2 n u ((ps ++ [p]).map Qt.cells) ∧ ModL n 111 S S2 := by
  have hc : cellsA S 6 (.slice (some ⟨x, 0, none⟩) 1 6) = some (1, p.cells) := by simp [cellsA, hx, Qt.cells]
  have hw : ∀ x ∈ (ps ++ [p]).map Qt.cells, x.length = 6 := fun x hx => by
    obtain ⟨p, _, rfl⟩ := List.mem_map.1 hx
    rfl
  have hcl := h.flat
  rw [List.length_map] at hcl
  rcases h.2 with ⟨rfl, hnil⟩ | ⟨o, h1, rfl, h2⟩
  · obtain rfl : ps = [] := by simpa using hnil
    refine ⟨.slice (some ⟨S.length, 0, none⟩) 1 6, S ++ [.row 111 true p.cells], ?_, ⟨hw, .inr ⟨S.length, hn, rfl, by simp⟩⟩, ModL.append _ _ _ _ hn⟩
    simp only [nilS, appendA, ty53, ty111, hc]
    simp [Value.cells]
  · have hm := ModL.set (y := .row 111 true ((ps ++ [p]).map Qt.cells).flatten) (x := .dead) h2 h1
    refine ⟨.slice (some ⟨S.length, 0, none⟩) (ps.length + 1) 6, S.set o .dead ++ [.row 111 true ((ps ++ [p]).map Qt.cells).flatten], ?_, ⟨hw, .inr ⟨S.length, hn, by simp, set_snoc_get⟩⟩, hm⟩
    have e1 : (ps.map Qt.cells).flatten.take (ps.length * 6) = (ps.map Qt.cells).flatten := by rw [← hcl, List.take_length]
    have e2 : ps.length * 6 ≤ (ps.map Qt.cells).flatten.length := by omega
    have e3 : (ps.length + 1) * 40 ≤ 140737488355328 := by omega
    have e4 : ps.length + 1 ≤ 9223372036854775807 := by omega
    simp only [appendA, ty53, ty111, hc, h2, e1, e2, e3, e4, List.length_map]
    simp [Value.cells]
theorem gr113 {S : St} {n : Nat} {v : Value} {ps : List Rt} (h : GrX 113 2 S n v (ps.map Rt.cells)) (hn : n ≤ S.length) {x : Nat} {p : Rt} (hx : S[x]? = some (.row 113 true p.cells)) (hl : ps.length ≤ 1000) :
    ∃ u S2, appendA TT S 54 v (.slice (some ⟨x, 0, none⟩) 1 2) = some (u, S2) ∧ GrX 113 2 S2 n u ((ps ++ [p]).map Rt.cells) ∧ ModL n 113 S S2 := by
  have hc : cellsA S 2 (.slice (some ⟨x, 0, none⟩) 1 2) = some (1, p.cells) := by simp [cellsA, hx, Rt.cells]
  have hw : ∀ x ∈ (ps ++ [p]).map Rt.cells, x.length = 2 := fun x hx => by
    obtain ⟨p, _, rfl⟩ := List.mem_map.1 hx
    rfl
  have hcl := h.flat
  rw [List.length_map] at hcl
  rcases h.2 with ⟨rfl, hnil⟩ | ⟨o, h1, rfl, h2⟩
  · obtain rfl : ps = [] := by simpa using hnil
    refine ⟨.slice (some ⟨S.length, 0, none⟩) 1 2, S ++ [.row 113 true p.cells], ?_, ⟨hw, .inr ⟨S.length, hn, rfl, by simp⟩⟩, ModL.append _ _ _ _ hn⟩
    simp only [nilS, appendA, ty54, ty113, hc]
    simp [Value.cells]
  · have hm := ModL.set (y := .row 113 true ((ps ++ [p]).map Rt.cells).flatten) (x := .dead) h2 h1
    refine ⟨.slice (some ⟨S.length, 0, none⟩) (ps.length + 1) 2, S.set o .dead ++ [.row 113 true ((ps ++ [p]).map Rt.cells).flatten], ?_, ⟨hw, .inr ⟨S.length, hn, by simp, set_snoc_get⟩⟩, hm⟩
    have e1 : (ps.map Rt.cells).flatten.take (ps.length * 2) = (ps.map Rt.cells).flatten := by rw [← hcl, List.take_length]
    have e2 : ps.length * 2 ≤ (ps.map Rt.cells).flatten.length := by omega
    have e3 : (ps.length + 1) * 16 ≤ 140737488355328 := by omega
    have e4 : ps.length + 1 ≤ 9223372036854775807 := by omega
    simp only [appendA, ty54, ty113, hc, h2, e1, e2, e3, e4, List.length_map]
    simp [Value.cells]

/-- Rows that a reader needs stand. -/
def SameR (S S' : St) : Prop := ∀ (j : Nat) (ty : TypeId) (rw : Bool) (cs : List Value), S[j]? = some (AObj.row ty rw cs) → ty = 117 ∨ ty = 5 ∨ ty = 96 → S'[j]? = some (AObj.row ty rw cs)
/-- The code's reader. -/
def RD (o : Nat) (S : St) (r : Rd) : Prop := ∃ ob er, RdAt S o r ob er
theorem RD.ok {S : St} {o : Nat} {r : Rd} (h : RD o S r) : r.Ok := by
  obtain ⟨ob, er, h⟩ := h
  exact h.ok
theorem RD.row {S : St} {o : Nat} {r : Rd} (h : RD o S r) : ∃ cs, S[o]? = some (.row 117 true cs) := by
  obtain ⟨ob, er, h⟩ := h
  exact ⟨_, h.row⟩
theorem RD.same {S S' : St} {o : Nat} {r : Rd} (h : RD o S r) (hs : SameR S S') : RD o S' r := by
  obtain ⟨ob, er, h⟩ := h
  refine ⟨ob, er, hs _ _ _ _ h.row (.inl rfl), hs _ _ _ _ h.bytes (.inr (.inl rfl)), ?_, h.ok⟩
  have := h.err
  cases hr : r.err with
  | none => rw [hr] at this; exact this
  | some a =>
    rw [hr] at this
    obtain ⟨oe, h1, h2⟩ := this
    exact ⟨oe, h1, hs _ _ _ _ h2 (.inr (.inr rfl))⟩

structure PreT (S S' : St) (o : Nat) (r : Rd) : Prop where
  k : ModO o S S'
  box : S'[S.length]? = some (.row 71 true [.pointer (some ⟨o, 0, none⟩)])
  res : S'[S.length + 1]? = some (.row 56 true (cfC zT nilS nilS nilS))
  rd : RD o S' r
  lo : o < S.length
structure TdI (S S' : St) (o : Nat) (r : Rd) (o6 : Nat) (c : Cf) (vp vq vr : Value) : Prop where
  p : PreT S S' o r
  fr : S'[o6]? = some (.row 56 true (cfC c vp vq vr))
  ps : GrX 108 9 S' S.length vp (c.ps.map Pt.cells)
  qs : GrX 111 6 S' S.length vq (c.qs.map Qt.cells)
  rs : GrX 113 2 S' S.length vr (c.rs.map Rt.cells)
  lo6 : S.length + 1 < o6
section
variable {S S' S'' : St} {o : Nat} {r r' : Rd} {o6 : Nat} {c : Cf} {vp vq vr : Value}
theorem PreT.read (h : PreT S S' o r) (hm : ModO o S' S'') (hr : RD o S'' r') : PreT S S'' o r' :=
  ⟨h.k.trans hm, hm.get h.box (by have := h.lo; omega), hm.get h.res (by have := h.lo; omega), hr, h.lo⟩
theorem sameR_append (S R : St) : SameR S (S ++ R) := fun j ty rw cs hj _ => at_old hj R
theorem PreT.more (h : PreT S S' o r) (R : St) : PreT S (S' ++ R) o r :=
  ⟨h.k.trans (ModO.of_keeps (Keeps.append _ _)), at_old h.box R, at_old h.res R, h.rd.same (sameR_append _ _), h.lo⟩
theorem PreT.set (h : PreT S S' o r) {x : Nat} {ty : TypeId} {rw : Bool} {cs : List Value} (hx : S'[x]? = some (.row ty rw cs)) (hlo : S.length + 1 < x) (h1 : ty ≠ 117) (h2 : ty ≠ 5) (h3 : ty ≠ 96) (y : AObj) : PreT S (S'.set x y) o r := by
  have hlo2 := h.lo
  refine ⟨⟨by have := h.k.1; simpa using this, fun j hj hne => ?_⟩, by rw [List.getElem?_set_ne (by omega)]; exact h.box, by rw [List.getElem?_set_ne (by omega)]; exact h.res, h.rd.same fun j ty' rw' cs' hj ht => ?_, h.lo⟩
  · rw [List.getElem?_set_ne (by omega)]
    exact h.k.2 j hj hne
  · rw [List.getElem?_set_ne (fun e => ?_)]
    · exact hj
    · subst e
      rw [hx] at hj
      cases hj
      rcases ht with h | h | h
      · exact h1 h
      · exact h2 h
      · exact h3 h
theorem TdI.read (h : TdI S S' o r o6 c vp vq vr) (hm : ModO o S' S'') (hr : RD o S'' r') : TdI S S'' o r' o6 c vp vq vr := by
  have hlo := h.p.lo
  have hlo6 := h.lo6
  exact ⟨h.p.read hm hr, hm.get h.fr (by omega), h.ps.keep fun a ha _ q => hm.get q (by omega), h.qs.keep fun a ha _ q => hm.get q (by omega), h.rs.keep fun a ha _ q => hm.get q (by omega), h.lo6⟩
theorem TdI.more (h : TdI S S' o r o6 c vp vq vr) (X : St) : TdI S (S' ++ X) o r o6 c vp vq vr :=
  ⟨h.p.more X, at_old h.fr X, h.ps.keep fun a _ _ q => at_old q X, h.qs.keep fun a _ _ q => at_old q X, h.rs.keep fun a _ _ q => at_old q X, h.lo6⟩
/-- An object of one's own is written. -/
theorem TdI.setX (h : TdI S S' o r o6 c vp vq vr) {x : Nat} {ty : TypeId} {cs : List Value} (hx : S'[x]? = some (.row ty true cs)) (hlo : S.length + 1 < x) (hty : ty = 108 ∨ ty = 111) (hp : ∀ a m s, vp = .slice (some ⟨a, 0, none⟩) m s → a ≠ x) (hq : ∀ a m s, vq = .slice (some ⟨a, 0, none⟩) m s → a ≠ x) (y : AObj) : TdI S (S'.set x y) o r o6 c vp vq vr := by
  refine ⟨h.p.set hx hlo (by rcases hty with rfl | rfl <;> decide) (by rcases hty with rfl | rfl <;> decide) (by rcases hty with rfl | rfl <;> decide) y, ?_, h.ps.keep fun a _ e q => ?_, h.qs.keep fun a _ e q => ?_, h.rs.keep fun a _ e q => ?_, h.lo6⟩
  · rw [List.getElem?_set_ne (fun e => ?_)]
    · exact h.fr
    · subst e
      rw [h.fr] at hx
      cases hx
      rcases hty with h | h <;> cases h
  · rw [List.getElem?_set_ne (Ne.symm (hp a _ _ e))]; exact q
  · rw [List.getElem?_set_ne (Ne.symm (hq a _ _ e))]; exact q
  · rw [List.getElem?_set_ne (fun e' => ?_)]
    · exact q
    · subst e'
      rw [q] at hx
      cases hx
      rcases hty with h | h <;> cases h
theorem TdI.app_ (h : TdI S S' o r o6 c vp vq vr) : (∀ a m s, vp = .slice (some ⟨a, 0, none⟩) m s → a ≠ S'.length) ∧ (∀ a m s, vq = .slice (some ⟨a, 0, none⟩) m s → a ≠ S'.length) := by
  constructor
  · intro a m s e
    rcases h.ps.2 with ⟨q, _⟩ | ⟨b, q1, q2, q3⟩
    · rw [q] at e; cases e
    · rw [q2] at e; cases e
      have := (List.getElem?_eq_some_iff.1 q3).1
      omega
  · intro a m s e
    rcases h.qs.2 with ⟨q, _⟩ | ⟨b, q1, q2, q3⟩
    · rw [q] at e; cases e
    · rw [q2] at e; cases e
      have := (List.getElem?_eq_some_iff.1 q3).1
      omega
theorem ModL.pre {ty : TypeId} (h : PreT S S' o r) (hm : ModL S.length ty S' S'') (h1 : ty ≠ 117) (h2 : ty ≠ 5) (h3 : ty ≠ 96) (h4 : ty ≠ 71) (h5 : ty ≠ 56) : PreT S S'' o r :=
  ⟨⟨Nat.le_trans h.k.1 hm.1, fun j hj hne => (hm.2.1 j hj).trans (h.k.2 j hj hne)⟩, hm.2.2 _ _ _ _ h.box (Ne.symm h4), hm.2.2 _ _ _ _ h.res (Ne.symm h5),
    h.rd.same fun j ty' rw cs hj ht => hm.2.2 _ _ _ _ hj (by rcases ht with rfl | rfl | rfl; exact Ne.symm h1; exact Ne.symm h2; exact Ne.symm h3), h.lo⟩
/-- The frame is written. -/
theorem TdI.put (hp : PreT S S' o r) (hfr : S'[o6]? = some (.row 56 true (cfC c vp vq vr))) (hlo : S.length + 1 < o6) {c' : Cf} {up uq ur : Value} (g1 : GrX 108 9 S' S.length up (c'.ps.map Pt.cells)) (g2 : GrX 111 6 S' S.length uq (c'.qs.map Qt.cells)) (g3 : GrX 113 2 S' S.length ur (c'.rs.map Rt.cells)) :
    TdI S (S'.set o6 (.row 56 true (cfC c' up uq ur))) o r o6 c' up uq ur := by
  have hl := (List.getElem?_eq_some_iff.1 hfr).1
  have key : ∀ {ty : TypeId} {cs : List Value} {a : Nat}, ty ≠ 56 → S'[a]? = some (.row ty true cs) → (S'.set o6 (.row 56 true (cfC c' up uq ur)))[a]? = some (.row ty true cs) := by
    intro ty cs a hty q
    rw [List.getElem?_set_ne (fun e => ?_)]
    · exact q
    · subst e
      rw [hfr] at q
      cases q
      exact hty rfl
  exact ⟨hp.set hfr hlo (by decide) (by decide) (by decide) _, List.getElem?_set_self hl, g1.keep fun a _ _ q => key (by decide) q, g2.keep fun a _ _ q => key (by decide) q, g3.keep fun a _ _ q => key (by decide) q, hlo⟩
theorem TdI.addPt (h : TdI S S' o r o6 c vp vq vr) {m : Pt} (hl : c.ps.length ≤ 1000) :
    ∃ u S2, appendA TT (S' ++ [.row 108 true m.cells]) 52 vp (.slice (some ⟨S'.length, 0, none⟩) 1 9) = some (u, S2) ∧ S2[o6]? = some (.row 56 true (cfC c vp vq vr)) ∧ solid u = true ∧ u.cells = #[u] ∧
      TdI S (S2.set o6 (.row 56 true (cfC { c with ps := c.ps ++ [m] } u vq vr))) o r o6 { c with ps := c.ps ++ [m] } u vq vr := by
  have h1 := h.more [.row 108 true m.cells]
  obtain ⟨u, S2, a1, a2, a3⟩ := gr108 h1.ps h1.p.k.1 (x := S'.length) (p := m) (by simp) hl
  have hfr := a3.2.2 _ _ _ _ h1.fr (by decide)
  have hpre := ModL.pre h1.p a3 (by decide) (by decide) (by decide) (by decide) (by decide)
  have gqs := h1.qs.keep fun a _ _ w => a3.2.2 _ _ _ _ w (by decide)
  have grs := h1.rs.keep fun a _ _ w => a3.2.2 _ _ _ _ w (by decide)
  exact ⟨u, S2, a1, hfr, a2.one.1, a2.one.2, TdI.put hpre hfr h.lo6 (c' := { c with ps := c.ps ++ [m] }) a2 gqs grs⟩
theorem TdI.addQt (h : TdI S S' o r o6 c vp vq vr) {m : Qt} (hl : c.qs.length ≤ 1000) :
    ∃ u S2, appendA TT (S' ++ [.row 111 true m.cells]) 53 vq (.slice (some ⟨S'.length, 0, none⟩) 1 6) = some (u, S2) ∧ S2[o6]? = some (.row 56 true (cfC c vp vq vr)) ∧ solid u = true ∧ u.cells = #[u] ∧
      TdI S (S2.set o6 (.row 56 true (cfC { c with qs := c.qs ++ [m] } vp u vr))) o r o6 { c with qs := c.qs ++ [m] } vp u vr := by
  have h1 := h.more [.row 111 true m.cells]
  obtain ⟨u, S2, a1, a2, a3⟩ := gr111 h1.qs h1.p.k.1 (x := S'.length) (p := m) (by simp) hl
  have hfr := a3.2.2 _ _ _ _ h1.fr (by decide)
  have hpre := ModL.pre h1.p a3 (by decide) (by decide) (by decide) (by decide) (by decide)
  have gps := h1.ps.keep fun a _ _ w => a3.2.2 _ _ _ _ w (by decide)
  have grs := h1.rs.keep fun a _ _ w => a3.2.2 _ _ _ _ w (by decide)
  exact ⟨u, S2, a1, hfr, a2.one.1, a2.one.2, TdI.put hpre hfr h.lo6 (c' := { c with qs := c.qs ++ [m] }) gps a2 grs⟩
theorem TdI.addRt (h : TdI S S' o r o6 c vp vq vr) {m : Rt} (hl : c.rs.length ≤ 1000) :
    ∃ u S2, appendA TT (S' ++ [.row 113 true m.cells]) 54 vr (.slice (some ⟨S'.length, 0, none⟩) 1 2) = some (u, S2) ∧ S2[o6]? = some (.row 56 true (cfC c vp vq vr)) ∧ solid u = true ∧ u.cells = #[u] ∧
      TdI S (S2.set o6 (.row 56 true (cfC { c with rs := c.rs ++ [m] } vp vq u))) o r o6 { c with rs := c.rs ++ [m] } vp vq u := by
  have h1 := h.more [.row 113 true m.cells]
  obtain ⟨u, S2, a1, a2, a3⟩ := gr113 h1.rs h1.p.k.1 (x := S'.length) (p := m) (by simp) hl
  have hfr := a3.2.2 _ _ _ _ h1.fr (by decide)
  have hpre := ModL.pre h1.p a3 (by decide) (by decide) (by decide) (by decide) (by decide)
  have gps := h1.ps.keep fun a _ _ w => a3.2.2 _ _ _ _ w (by decide)
  have gqs := h1.qs.keep fun a _ _ w => a3.2.2 _ _ _ _ w (by decide)
  exact ⟨u, S2, a1, hfr, a2.one.1, a2.one.2, TdI.put hpre hfr h.lo6 (c' := { c with rs := c.rs ++ [m] }) gps gqs a2⟩
end
end Go.Proofs.Ytpgiiidnimbdgaa
