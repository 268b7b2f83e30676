/- What reading a frame comes to; how a frame lies while it is read. -/
import Derived.Test.YtpgiiidnimbdgaaAbF17
namespace Go.Proofs.Ytpgiiidnimbdgaa
open Go.Ab
set_option linter.unusedSimpArgs false
set_option linter.unusedVariables false
set_option maxRecDepth 4000

def rdM : Nat → Rd → List Msg → List Msg × Rd
  | 0, r, ms => (ms, r)
  | n + 1, r, ms => if r.err = none then rdM n (r.takeR 1).textR (ms ++ [⟨((r.takeV 1 : Nat) : Int), (r.takeR 1).textL⟩]) else (ms, r)
def rdRec (r : Rd) : Rec := ⟨r.takeV 4, (r.takeR 4).takeV 1, ((r.takeR 4).takeR 1).takeV 1, (((r.takeR 4).takeR 1).takeR 1).takeV 1, ((((r.takeR 4).takeR 1).takeR 1).takeR 1).takeV 1⟩
def rdRecR (r : Rd) : Rd := ((((r.takeR 4).takeR 1).takeR 1).takeR 1).takeR 1
def rdR : Nat → Rd → List Rec → List Rec × Rd
  | 0, r, rs => (rs, r)
  | n + 1, r, rs => if r.err = none then rdR n (rdRecR r) (rs ++ [rdRec r]) else (rs, r)
def rdHead (r : Rd) : Frm := ⟨r.takeV 1, (r.takeR 1).takeV 4, ((r.takeR 1).takeR 4).takeV 1, [], ⟨0, 0, 0, 0⟩, []⟩
def rdHeadR (r : Rd) : Rd := ((r.takeR 1).takeR 4).takeR 1
def rdCmd (r : Rd) : Cmd := ⟨r.takeV 1, (r.takeR 1).takeV 1, ((r.takeR 1).takeR 1).takeV 2, (((r.takeR 1).takeR 1).takeR 2).takeV 2⟩
def rdCmdR (r : Rd) : Rd := (((r.takeR 1).takeR 1).takeR 2).takeR 2
def rdMs (r : Rd) : List Msg × Rd := rdM (r.takeV 1) (r.takeR 1) []
def rdRs (r : Rd) : List Rec × Rd := rdR (r.takeV 1) (r.takeR 1) []
def decB (inn : List Nat) : Frm × Rd :=
  let f := rdHead ⟨inn, 0, none⟩
  let m := rdMs (rdHeadR ⟨inn, 0, none⟩)
  let c := rdCmd m.2
  let q := rdRs (rdCmdR m.2)
  ({ f with ms := m.1, c := c, rs := q.1 }, q.2)
def decE (p : Frm × Rd) : Frm × List (Int × Int) := match thenE p.2.endE (chkE p.1) with
  | [] => (p.1, [])
  | e :: es => (zF, (40, (p.2.at_ : Int)) :: e :: es)
def decF (l : List Nat) : Frm × List (Int × Int) := match openB l with
  | none => (zF, [(40, -1), (6, -1)])
  | some inn => decE (decB inn)

theorem takeV_lt {r : Rd} (h : r.Ok) {k : Nat} (hk : k ≤ 4) : r.takeV k < 256 ^ k := by
  unfold Rd.takeV
  split
  · exact beV_le (h.by_.drop _) hk
  · exact Nat.pow_pos (by decide)

/-! lists that grow -/
def GrM (S : St) (n : Nat) (v : Value) (ms : List Msg) : Prop := (v = .slice none 0 0 ∧ ms = []) ∨ ∃ o ds, v = .slice (some ⟨o, 0, none⟩) ms.length 2 ∧ OwM S n o ms ds
def GrR (S : St) (n : Nat) (v : Value) (rs : List Rec) : Prop := (v = .slice none 0 0 ∧ rs = []) ∨ ∃ o, n ≤ o ∧ v = .slice (some ⟨o, 0, none⟩) rs.length 5 ∧ S[o]? = some (.row 81 true (rs.map Rec.cells).flatten)
theorem GrM.slM {S : St} {n : Nat} {v : Value} {ms : List Msg} (h : GrM S n v ms) : SlM S v ms := by
  rcases h with ⟨rfl, rfl⟩ | ⟨o, ds, rfl, h⟩
  · exact ⟨[], rfl, ⟨fun x hx => by simp at hx, .inl ⟨rfl, rfl⟩⟩, fun i m d hm => by simp at hm⟩
  · exact h.slM
theorem GrR.slR {S : St} {n : Nat} {v : Value} {rs : List Rec} (h : GrR S n v rs) : SlR S v rs := by
  refine ⟨fun x hx => ?_, ?_⟩
  · obtain ⟨p, _, rfl⟩ := List.mem_map.1 hx
    rfl
  · rcases h with ⟨rfl, rfl⟩ | ⟨o, h1, rfl, h2⟩
    · exact .inl ⟨rfl, rfl⟩
    · exact .inr ⟨o, 5, true, by simp, h2, .inr rfl⟩
theorem GrM.one {S : St} {n : Nat} {v : Value} {ms : List Msg} (h : GrM S n v ms) : solid v = true ∧ v.cells = #[v] := by
  rcases h with ⟨rfl, _⟩ | ⟨_, _, rfl, _⟩ <;> exact ⟨rfl, rfl⟩
theorem GrR.one {S : St} {n : Nat} {v : Value} {rs : List Rec} (h : GrR S n v rs) : solid v = true ∧ v.cells = #[v] := by
  rcases h with ⟨rfl, _⟩ | ⟨_, _, rfl, _⟩ <;> exact ⟨rfl, rfl⟩
/-- All objects but frames and their lists stand. -/
def Same4 (S S' : St) : Prop := ∀ (j : Nat) (ty : TypeId) (rw : Bool) (cs : List Value), S[j]? = some (AObj.row ty rw cs) → ty ≠ 34 → ty ≠ 77 → ty ≠ 81 → S'[j]? = some (AObj.row ty rw cs)
/-- All objects but lists of one kind stand. -/
def ModL (n : Nat) (ty : TypeId) (S S' : St) : Prop := S.length ≤ S'.length ∧ (∀ (j : Nat), j < n → S'[j]? = S[j]?) ∧ ∀ (j : Nat) (ty' : TypeId) (rw : Bool) (cs : List Value), S[j]? = some (AObj.row ty' rw cs) → ty' ≠ ty → S'[j]? = some (AObj.row ty' rw cs)
theorem ModL.append (n : Nat) (ty : TypeId) (S R : St) (hn : n ≤ S.length) : ModL n ty S (S ++ R) := ⟨by simp, fun j hj => List.getElem?_append_left (by omega), fun j ty' rw cs hj _ => at_old hj R⟩
theorem ModL.set {n o : Nat} {ty : TypeId} {S : St} {x y : AObj} {rw : Bool} {cs : List Value} (ho : S[o]? = some (.row ty rw cs)) (hn : n ≤ o) : ModL n ty S (S.set o x ++ [y]) :=
  ⟨by simp, fun j hj => by
    have := (List.getElem?_eq_some_iff.1 ho).1
    rw [List.getElem?_append_left (by simp; omega), List.getElem?_set_ne (by omega)], fun j ty' rw' cs' hj hne => set_snoc_old hj (fun e => by
    subst e
    rw [ho] at hj
    cases hj
    exact hne rfl)⟩
theorem ModL.slB {n : Nat} {ty : TypeId} {S S' : St} (h : ModL n ty S S') (hty : ty ≠ 5) {v : Value} {l : List Nat} (hv : SlB S v l) : SlB S' v l := by
  rcases hv.h with ⟨h1, h2⟩ | ⟨a, k, s, rw', cs', h1, h2, h3⟩
  · exact ⟨.inl ⟨h1, h2⟩⟩
  · exact ⟨.inr ⟨a, k, s, rw', cs', h1, h.2.2 _ _ _ _ h2 (Ne.symm hty), h3⟩⟩
theorem ModL.owM {n : Nat} {ty : TypeId} {S S' : St} (h : ModL n ty S S') (h5 : ty ≠ 5) (h7 : ty ≠ 77) {k o : Nat} {ms : List Msg} {ds : List Value} (hv : OwM S k o ms ds) : OwM S' k o ms ds :=
  ⟨hv.lo, h.2.2 _ _ _ _ hv.row (Ne.symm h7), hv.len, fun i m d q1 q2 => h.slB h5 (hv.data i m d q1 q2)⟩

theorem GrM.app {S : St} {n : Nat} {v : Value} {ms : List Msg} (h : GrM S n v ms) (hn : n ≤ S.length) {x : Nat} {m : Msg} {d : Value} (hx : S[x]? = some (.row 77 true [.int .i64 m.port, d])) (hd : SlB S d m.data) (hl : ms.length ≤ 1000) :
    ∃ u S2, appendA TT S 27 v (.slice (some ⟨x, 0, none⟩) 1 2) = some (u, S2) ∧ GrM S2 n u (ms ++ [m]) ∧ ModL n 77 S S2 := by
  have hc : cellsA S 2 (.slice (some ⟨x, 0, none⟩) 1 2) = some (1, [.int .i64 m.port, d]) := by simp [cellsA, hx]
  rcases h with ⟨rfl, rfl⟩ | ⟨o, ds, rfl, h⟩
  · refine ⟨.slice (some ⟨S.length, 0, none⟩) 1 2, S ++ [.row 77 true [.int .i64 m.port, d]], ?_, .inr ⟨S.length, [d], rfl, ⟨hn, by simp [cellsM], rfl, fun i m' d' q1 q2 => ?_⟩⟩, ModL.append _ _ _ _ hn⟩
    · simp only [appendA, ty27, ty77, hc]
      simp [Value.cells]
    · cases i with
      | zero =>
        simp at q1 q2
        subst q1; subst q2
        exact hd.append _
      | succ i => simp at q1
  · have hcl := cellsM_len h.len
    have hm := ModL.set (y := .row 77 true (cellsM (ms ++ [m]) (ds ++ [d]))) (x := .dead) h.row h.lo
    refine ⟨.slice (some ⟨S.length, 0, none⟩) (ms.length + 1) 2, S.set o .dead ++ [.row 77 true (cellsM (ms ++ [m]) (ds ++ [d]))], ?_, .inr ⟨S.length, ds ++ [d], by simp, ⟨hn, set_snoc_get, by simp [h.len], fun i m' d' q1 q2 => ?_⟩⟩, hm⟩
    · have e1 : (cellsM ms ds).take (ms.length * 2) = cellsM ms ds := by rw [← hcl, List.take_length]
      have e2 : ms.length * 2 ≤ (cellsM ms ds).length := by omega
      have e3 : (ms.length + 1) * 32 ≤ 140737488355328 := by omega
      have e4 : ms.length + 1 ≤ 9223372036854775807 := by omega
      simp only [appendA, ty27, ty77, hc, h.row, e1, e2, e3, e4, cellsM_snoc h.len]
      simp [Value.cells]
    · rcases Nat.lt_or_ge i ms.length with hi | hi
      · rw [List.getElem?_append_left hi] at q1
        rw [List.getElem?_append_left (by rw [h.len]; exact hi)] at q2
        refine SlB.keeps (S := S.set o .dead) (Keeps.append _ _) ?_
        exact SlB.modO (ModO.set _ _ _) (h.data i m' d' q1 q2) h.row (by decide)
      · rw [List.getElem?_append_right hi] at q1
        rw [List.getElem?_append_right (by rw [h.len]; exact hi), h.len] at q2
        have hz : i - ms.length = 0 := by
          have := (List.getElem?_eq_some_iff.1 q1).1
          simp at this
          omega
        rw [hz] at q1 q2
        simp at q1 q2
        subst q1; subst q2
        refine SlB.keeps (S := S.set o .dead) (Keeps.append _ _) ?_
        exact SlB.modO (ModO.set _ _ _) hd h.row (by decide)
theorem GrR.app {S : St} {n : Nat} {v : Value} {rs : List Rec} (h : GrR S n v rs) (hn : n ≤ S.length) {x : Nat} {r : Rec} (hx : S[x]? = some (.row 81 true r.cells)) (hl : rs.length ≤ 1000) :
    ∃ u S2, appendA TT S 32 v (.slice (some ⟨x, 0, none⟩) 1 5) = some (u, S2) ∧ GrR S2 n u (rs ++ [r]) ∧ ModL n 81 S S2 := by
  have hc : cellsA S 5 (.slice (some ⟨x, 0, none⟩) 1 5) = some (1, r.cells) := by simp [cellsA, hx, Rec.cells]
  rcases h with ⟨rfl, rfl⟩ | ⟨o, h1, rfl, h⟩
  · refine ⟨.slice (some ⟨S.length, 0, none⟩) 1 5, S ++ [.row 81 true r.cells], ?_, .inr ⟨S.length, hn, rfl, by simp⟩, ModL.append _ _ _ _ hn⟩
    simp only [appendA, ty32, ty81, hc]
    simp [Value.cells]
  · have hcl : (rs.map Rec.cells).flatten.length = rs.length * 5 := by
      clear h h1
      induction rs with
      | nil => rfl
      | cons x xs ih => rw [List.map_cons, List.flatten_cons, List.length_append, ih (by simp at hl; omega), List.length_cons, Nat.succ_mul, Nat.add_comm]; rfl
    have hm := ModL.set (y := .row 81 true ((rs ++ [r]).map Rec.cells).flatten) (x := .dead) h h1
    refine ⟨.slice (some ⟨S.length, 0, none⟩) (rs.length + 1) 5, S.set o .dead ++ [.row 81 true ((rs ++ [r]).map Rec.cells).flatten], ?_, .inr ⟨S.length, hn, by simp, set_snoc_get⟩, hm⟩
    have e1 : (rs.map Rec.cells).flatten.take (rs.length * 5) = (rs.map Rec.cells).flatten := by rw [← hcl, List.take_length]
    have e2 : rs.length * 5 ≤ (rs.map Rec.cells).flatten.length := by omega
    have e3 : (rs.length + 1) * 8 ≤ 140737488355328 := by omega
    have e3' : (rs.length + 1) * 12 ≤ 140737488355328 := by omega
    have e4 : rs.length + 1 ≤ 9223372036854775807 := by omega
    simp only [appendA, ty32, ty81, hc, h, e1, e2, e3, e3', e4]
    simp [Value.cells]

/-- A reader, of the code or of the document. -/
structure IsR (o : Nat) (R : St → Rd → Prop) : Prop where
  row : ∀ {S r}, R S r → ∃ ty cs, S[o]? = some (.row ty true cs) ∧ (ty = 117 ∨ ty = 88)
  same : ∀ {S S' r}, R S r → Same4 S S' → R S' r
structure DecI (R : St → Rd → Prop) (S S' : St) (o : Nat) (r : Rd) (o7 : Nat) (f : Frm) (vm vr : Value) : Prop where
  k : Keeps S S'
  res : S'[S.length]? = some (.row 34 true (frmC zF (.slice none 0 0) (.slice none 0 0)))
  rd : R S' r
  fr : S'[o7]? = some (.row 34 true (frmC f vm vr))
  ms : GrM S' S.length vm f.ms
  rs : GrR S' S.length vr f.rs
  lo : S.length < o
  lo7 : S.length < o7
section
variable {R : St → Rd → Prop} {S S' : St} {o : Nat} {r : Rd} {o7 : Nat} {f : Frm} {vm vr : Value}
theorem DecI.read (hR : IsR o R) (h : DecI R S S' o r o7 f vm vr) {S'' : St} {r' : Rd} (hm : ModO o S' S'') (hr : R S'' r') : DecI R S S'' o r' o7 f vm vr := by
  obtain ⟨ty, cs, h1, h2⟩ := hR.row h.rd
  have n5 : ty ≠ 5 := by rcases h2 with rfl | rfl <;> decide
  have n7 : ty ≠ 77 := by rcases h2 with rfl | rfl <;> decide
  have n8 : ty ≠ 81 := by rcases h2 with rfl | rfl <;> decide
  have n3 : ty ≠ 34 := by rcases h2 with rfl | rfl <;> decide
  refine ⟨hm.keeps h.k (by have := h.lo; omega), hm.get h.res (by have := h.lo; omega), hr, hm.get h.fr (fun e => ?_), ?_, ?_, h.lo, h.lo7⟩
  · have := h.fr
    rw [e, h1] at this
    cases this
    exact n3 rfl
  · exact h.ms.imp id fun ⟨a, ds, q1, q2⟩ => ⟨a, ds, q1, q2.modO hm h1 n5 n7⟩
  · refine h.rs.imp id fun ⟨a, q1, q2, q3⟩ => ⟨a, q1, q2, hm.get q3 (fun e => ?_)⟩
    rw [e, h1] at q3
    cases q3
    exact n8 rfl
theorem DecI.ne (hR : IsR o R) (h : DecI R S S' o r o7 f vm vr) : o7 ≠ o := by
  rintro rfl
  obtain ⟨ty, cs, h1, h2⟩ := hR.row h.rd
  have := h.fr
  rw [h1] at this
  cases this
  rcases h2 with h | h <;> cases h
theorem same4_append (S R : St) : Same4 S (S ++ R) := fun j ty rw cs hj _ _ _ => at_old hj R
theorem DecI.more (hR : IsR o R) (h : DecI R S S' o r o7 f vm vr) (X : St) : DecI R S (S' ++ X) o r o7 f vm vr :=
  ⟨h.k.more X, at_old h.res X, hR.same h.rd (same4_append _ _), at_old h.fr X, h.ms.imp id fun ⟨a, ds, q1, q2⟩ => ⟨a, ds, q1, q2.keeps (Keeps.append _ _)⟩,
    h.rs.imp id fun ⟨a, q1, q2, q3⟩ => ⟨a, q1, q2, at_old q3 X⟩, h.lo, h.lo7⟩
theorem DecI.put (hR : IsR o R) (h : DecI R S S' o r o7 f vm vr) {f' : Frm} {um ur : Value} (hm : GrM S' S.length um f'.ms) (hr : GrR S' S.length ur f'.rs) : DecI R S (S'.set o7 (.row 34 true (frmC f' um ur))) o r o7 f' um ur := by
  have hl := (List.getElem?_eq_some_iff.1 h.fr).1
  have h7 := h.lo7
  refine ⟨h.k.set (by omega) _, by rw [List.getElem?_set_ne (by omega)]; exact h.res, hR.same h.rd fun j ty rw cs hj h1 _ _ => ?_, List.getElem?_set_self hl, ?_, ?_, h.lo, h.lo7⟩
  · rw [List.getElem?_set_ne (fun e => ?_)]
    · exact hj
    · subst e
      rw [h.fr] at hj
      cases hj
      exact h1 rfl
  · exact hm.imp id fun ⟨a, ds, q1, q2⟩ => ⟨a, ds, q1, q2.modO (ModO.set _ _ _) h.fr (by decide) (by decide)⟩
  · refine hr.imp id fun ⟨a, q1, q2, q3⟩ => ⟨a, q1, q2, ?_⟩
    rw [List.getElem?_set_ne (fun e => ?_)]
    · exact q3
    · subst e
      rw [h.fr] at q3
      cases q3
theorem DecI.putC (hR : IsR o R) (h : DecI R S S' o r o7 f vm vr) (c : Cmd) : DecI R S (S'.set o7 (.row 34 true (frmC { f with c := c } vm vr))) o r o7 { f with c := c } vm vr := h.put hR (f' := { f with c := c }) h.ms h.rs
theorem ModL.same4 {n : Nat} {S S' : St} {ty : TypeId} (h : ModL n ty S S') (hty : ty = 77 ∨ ty = 81) : Same4 S S' := fun j ty' rw cs hj h1 h2 h3 => h.2.2 j ty' rw cs hj (by rcases hty with rfl | rfl <;> assumption)
/-- A message more. -/
theorem DecI.msg (hR : IsR o R) (h : DecI R S S' o r o7 f vm vr) {m : Msg} {d : Value} (hd : SlB S' d m.data) (hl : f.ms.length ≤ 1000) :
    ∃ u S2, appendA TT (S' ++ [.row 77 true [.int .i64 m.port, d]]) 27 vm (.slice (some ⟨S'.length, 0, none⟩) 1 2) = some (u, S2) ∧ S2[o7]? = some (.row 34 true (frmC f vm vr)) ∧ solid u = true ∧ u.cells = #[u] ∧
      DecI R S (S2.set o7 (.row 34 true (frmC { f with ms := f.ms ++ [m] } u vr))) o r o7 { f with ms := f.ms ++ [m] } u vr := by
  have h1 := h.more hR [.row 77 true [.int .i64 m.port, d]]
  have hsl : S.length ≤ (S' ++ [AObj.row 77 true [.int .i64 m.port, d]]).length := h1.k.1
  obtain ⟨u, S2, a1, a2, a3⟩ := h1.ms.app hsl (x := S'.length) (m := m) (d := d) (by simp) (hd.append _) hl
  have hfr := a3.2.2 _ _ _ _ h1.fr (by decide)
  have h3 : S2[S.length]? = some (.row 34 true (frmC zF (.slice none 0 0) (.slice none 0 0))) := a3.2.2 _ _ _ _ h1.res (by decide)
  have h4 : Keeps S S2 := ⟨Nat.le_trans h1.k.1 a3.1, fun j hj => (a3.2.1 j hj).trans (h1.k.2 j hj)⟩
  have h5 : GrR S2 S.length vr f.rs := h1.rs.imp id fun ⟨a, q1, q2, q3⟩ => ⟨a, q1, q2, a3.2.2 _ _ _ _ q3 (by decide)⟩
  refine ⟨u, S2, a1, hfr, a2.one.1, a2.one.2, ?_⟩
  have hl := (List.getElem?_eq_some_iff.1 hfr).1
  have h7 := h.lo7
  refine ⟨h4.set (by omega) _, by rw [List.getElem?_set_ne (by omega)]; exact h3, hR.same h1.rd fun j ty rw cs hj q1 q2 q3 => ?_, List.getElem?_set_self hl, ?_, ?_, h.lo, h.lo7⟩
  · have hj2 := a3.same4 (.inl rfl) j ty rw cs hj q1 q2 q3
    rw [List.getElem?_set_ne (fun e => ?_)]
    · exact hj2
    · subst e
      rw [hfr] at hj2
      cases hj2
      exact q1 rfl
  · exact a2.imp id fun ⟨a, ds, q1, q2⟩ => ⟨a, ds, q1, q2.modO (ModO.set _ _ _) hfr (by decide) (by decide)⟩
  · refine h5.imp id fun ⟨a, q1, q2, q3⟩ => ⟨a, q1, q2, ?_⟩
    rw [List.getElem?_set_ne (fun e => ?_)]
    · exact q3
    · subst e
      rw [hfr] at q3
      cases q3
/-- A record more. -/
theorem DecI.rec_ (hR : IsR o R) (h : DecI R S S' o r o7 f vm vr) {x : Rec} (hl : f.rs.length ≤ 1000) :
    ∃ u S2, appendA TT (S' ++ [.row 81 true x.cells]) 32 vr (.slice (some ⟨S'.length, 0, none⟩) 1 5) = some (u, S2) ∧ S2[o7]? = some (.row 34 true (frmC f vm vr)) ∧ solid u = true ∧ u.cells = #[u] ∧
      DecI R S (S2.set o7 (.row 34 true (frmC { f with rs := f.rs ++ [x] } vm u))) o r o7 { f with rs := f.rs ++ [x] } vm u := by
  have h1 := h.more hR [.row 81 true x.cells]
  have hsl : S.length ≤ (S' ++ [AObj.row 81 true x.cells]).length := h1.k.1
  obtain ⟨u, S2, a1, a2, a3⟩ := h1.rs.app hsl (x := S'.length) (r := x) (by simp) hl
  have hfr := a3.2.2 _ _ _ _ h1.fr (by decide)
  have h3 : S2[S.length]? = some (.row 34 true (frmC zF (.slice none 0 0) (.slice none 0 0))) := a3.2.2 _ _ _ _ h1.res (by decide)
  have h4 : Keeps S S2 := ⟨Nat.le_trans h1.k.1 a3.1, fun j hj => (a3.2.1 j hj).trans (h1.k.2 j hj)⟩
  have h5 : GrM S2 S.length vm f.ms := h1.ms.imp id fun ⟨a, ds, q1, q2⟩ => ⟨a, ds, q1, a3.owM (by decide) (by decide) q2⟩
  refine ⟨u, S2, a1, hfr, a2.one.1, a2.one.2, ?_⟩
  have hl := (List.getElem?_eq_some_iff.1 hfr).1
  have h7 := h.lo7
  refine ⟨h4.set (by omega) _, by rw [List.getElem?_set_ne (by omega)]; exact h3, hR.same h1.rd fun j ty rw cs hj q1 q2 q3 => ?_, List.getElem?_set_self hl, ?_, ?_, h.lo, h.lo7⟩
  · have hj2 := a3.same4 (.inr rfl) j ty rw cs hj q1 q2 q3
    rw [List.getElem?_set_ne (fun e => ?_)]
    · exact hj2
    · subst e
      rw [hfr] at hj2
      cases hj2
      exact q1 rfl
  · exact h5.imp id fun ⟨a, ds, q1, q2⟩ => ⟨a, ds, q1, q2.modO (ModO.set _ _ _) hfr (by decide) (by decide)⟩
  · refine a2.imp id fun ⟨a, q1, q2, q3⟩ => ⟨a, q1, q2, ?_⟩
    rw [List.getElem?_set_ne (fun e => ?_)]
    · exact q3
    · subst e
      rw [hfr] at q3
      cases q3
theorem DecI.frAt (h : DecI R S S' o r o7 f vm vr) (h1 : f.ms.length ≤ 1000) (h2 : f.rs.length ≤ 1000) : FrAt S' f vm vr := ⟨h.ms.slM, h.rs.slR, by omega, by omega⟩
end
/-- The code's reader. -/
def RC (o : Nat) (S : St) (r : Rd) : Prop := ∃ ob er, RdAt S o r ob er
/-- The document's reader. -/
def RF (o : Nat) (S : St) (r : Rd) : Prop := ∃ ob, RfAt S o r ob
theorem isRC (o : Nat) : IsR o (RC o) := by
  refine ⟨fun ⟨ob, er, h⟩ => ⟨117, _, h.row, .inl rfl⟩, fun {S S' r} ⟨ob, er, h⟩ hs => ⟨ob, er, ?_⟩⟩
  refine ⟨hs _ _ _ _ h.row (by decide) (by decide) (by decide), hs _ _ _ _ h.bytes (by decide) (by decide) (by decide), ?_, h.ok⟩
  have := h.err
  cases hr : r.err with
  | none => rw [hr] at this; exact this
  | some a =>
    rw [hr] at this
    obtain ⟨oe, h1, h2⟩ := this
    exact ⟨oe, h1, hs _ _ _ _ h2 (by decide) (by decide) (by decide)⟩
theorem isRF (o : Nat) : IsR o (RF o) :=
  ⟨fun ⟨ob, h⟩ => ⟨88, _, h.row, .inr rfl⟩, fun {S S' r} ⟨ob, h⟩ hs => ⟨ob, hs _ _ _ _ h.row (by decide) (by decide) (by decide), hs _ _ _ _ h.bytes (by decide) (by decide) (by decide), h.ok, h.sm⟩⟩
end Go.Proofs.Ytpgiiidnimbdgaa
