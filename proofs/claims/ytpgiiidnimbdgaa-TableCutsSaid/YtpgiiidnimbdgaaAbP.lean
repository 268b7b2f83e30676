/- Helpers of a walk: parts of a region, calls that leave nothing behind, slices of known rows; for any program. -/
import Derived.Test.YtpgiiidnimbdgaaAbO
namespace Go.Ab
open Go.RowKit
set_option linter.unusedVariables false
set_option linter.unusedSimpArgs false

section
variable {P : Program} {T : Tab} {m n : Nat} {f : Fr} {S T0 : St} {ops : Array Oper} {K : Fr → St → Prop}
theorem aList_append (l1 l2 : List Oper) : ∀ (f : Fr) (S : St), aList P T m ops K (l1 ++ l2) f S = aList P T m ops (aList P T m ops K l2) l1 f S := by
  induction l1 with
  | nil => intro f S; rfl
  | cons o l1 ih =>
    intro f S
    simp only [List.cons_append, aList_cons]
    congr 1
    funext f' S'
    exact ih f' S'
theorem aList_cut (i : Nat) {l : List Oper} (h : ∀ K' : Fr → St → Prop, (∀ f S, aList P T m ops K (l.drop i) f S → K' f S) → aList P T m ops K' (l.take i) f S) : aList P T m ops K l f S := by
  have := h _ fun _ _ q => q
  rw [← aList_append, List.take_append_drop] at this
  exact this
/-- What is known in the midst of a region, the store being as it was. -/
theorem aList_mid (i : Nat) (R : Fr → Prop) {l : List Oper} (h1 : ∀ K' : Fr → St → Prop, (∀ f, R f → K' f S) → aList P T m ops K' (l.take i) f S) (h2 : ∀ f, R f → aList P T m ops K (l.drop i) f S) : aList P T m ops K l f S := by
  have := h1 _ h2
  rw [← aList_append, List.take_append_drop] at this
  exact this
theorem aPlan_append (p2 : List (Nat × Nat)) : ∀ (p1 : List (Nat × Nat)) (f : Fr) (S : St), aPlan P T m ops T0 K (p1 ++ p2) f S = aPlan P T m ops T0 (aPlan P T m ops T0 K p2) p1 f S
  | [], f, S => rfl
  | (i, 0) :: p1, f, S => by
    simp only [List.cons_append, aPlan]
    congr 1
    funext f' S'
    exact aPlan_append p2 p1 f' S
  | (i, 1) :: p1, f, S => by
    simp only [List.cons_append, aPlan]
    congr 1
    funext f' S'
    rw [aPlan_append p2 p1 f' S']
  | (i, 2) :: p1, f, S => by
    simp only [List.cons_append, aPlan]
    congr 1
    funext f' S'
    exact aPlan_append p2 p1 f' S'
  | (i, k + 3) :: p1, f, S => by
    simp only [List.cons_append, aPlan]
    congr 1
    funext f' S'
    exact aPlan_append p2 p1 f' S
theorem aPlan_cut (i : Nat) {p : List (Nat × Nat)} (h : ∀ K' : Fr → St → Prop, (∀ f S, aPlan P T m ops T0 K (p.drop i) f S → K' f S) → aPlan P T m ops T0 K' (p.take i) f S) : aPlan P T m ops T0 K p f S := by
  have := h _ fun _ _ q => q
  rw [← aPlan_append, List.take_append_drop] at this
  exact this
def kP0 (P : Program) (T : Tab) (m : Nat) (ops : Array Oper) (T0 : St) (K : Fr → St → Prop) (p : List (Nat × Nat)) (S : St) (f' : Fr) (_ : St) : Prop := aPlan P T m ops T0 K p f' S
def kP1 (P : Program) (T : Tab) (m : Nat) (ops : Array Oper) (T0 : St) (K : Fr → St → Prop) (p : List (Nat × Nat)) (f' : Fr) (S' : St) : Prop := Le T0 S' ∧ aPlan P T m ops T0 K p f' S'
theorem aPlan_mid (i : Nat) (R : Fr → Prop) {p : List (Nat × Nat)} (h1 : ∀ K' : Fr → St → Prop, (∀ f, R f → K' f S) → aPlan P T m ops T0 K' (p.take i) f S) (h2 : ∀ f, R f → aPlan P T m ops T0 K (p.drop i) f S) : aPlan P T m ops T0 K p f S := by
  have := h1 _ h2
  rw [← aPlan_append, List.take_append_drop] at this
  exact this
theorem aPlan_nil : aPlan P T m ops T0 K [] f S = K f S := rfl
theorem aPlan_0 (i : Nat) (p : List (Nat × Nat)) : aPlan P T m ops T0 K ((i, 0) :: p) f S = aOpI P T m ops i f T0 (kP0 P T m ops T0 K p S) := rfl
theorem aPlan_1 (i : Nat) (p : List (Nat × Nat)) : aPlan P T m ops T0 K ((i, 1) :: p) f S = aOpI P T m ops i f S (kP1 P T m ops T0 K p) := rfl
theorem aPlan_2 (i : Nat) (p : List (Nat × Nat)) : aPlan P T m ops T0 K ((i, 2) :: p) f S = aOpI P T m ops i f S (aPlan P T m ops T0 K p) := rfl
theorem aPlan_3 (i : Nat) (p : List (Nat × Nat)) : aPlan P T m ops T0 K ((i, 3) :: p) f S = aOpI P T m ops i f [] (kP0 P T m ops T0 K p S) := rfl
theorem aOpI_eq {i : Nat} {o : Oper} (h : ops[i]? = some o) : aOpI P T m ops i f S K = aOp P T m ops o f S K := by unfold aOpI; rw [h]

/-- A call by its body that leaves nothing behind. -/
theorem ACalls.ofP (ok : TabOk P T) {g : FuncId} {fn : Func} {c : Code} {args : List Value} {Q : Value → Prop}
    (henter : ∀ cargs w, (callFunc g cargs).run P w = .ok (.enter g cargs) w) (hf : P.funcs[g]? = some fn) (hb : fn.body = some c) {m : Nat} (hm : fn.ntmps = m) (hle : args.length ≤ m)
    {rs : List ResultVar} (hrs : fn.results.toList = rs)
    (h : ClosedSt S.length S → (∀ v ∈ args, Closed S.length v) → AWp P m S.length c (EndA T m rs (fun r S' => (∃ R, S' = S ++ R) ∧ Closed S.length r ∧ Q r)) (fr0 args) S) : ACalls P g args S (fun r S' => S' = S ∧ Q r) :=
  ACalls.closed henter fun hc => ACalls.pure (fun hc => ACalls.of ok henter hf hb hm hle hrs h) hc
end

theorem le_self (S : St) : Le S S = True := eq_true (Le.refl S)

theorem Wk.frame {m n : Nat} {f : Fr} {S : St} {l : List (Nat × Value)} (h : ∀ p ∈ l, f p.1 = p.2) : Wk m n f S (frL l) S := by
  intro σ base w0 w tmps hn hs hf
  refine ⟨σ, List.take_prefix _ _, hn, hs, hf.size, fun i hi => ?_⟩
  have key : ∀ (l : List (Nat × Value)), (∀ p ∈ l, f p.1 = p.2) → frL l i = top_ ∨ frL l i = f i := by
    intro l
    induction l with
    | nil => intro _; exact .inl rfl
    | cons p l ih =>
      intro h
      rw [frL_cons]
      by_cases hi : i = p.1
      · rw [if_pos hi, hi]; exact .inr (h p (by simp)).symm
      · rw [if_neg hi]; exact ih (fun q hq => h q (by simp [hq]))
  rcases key l h with e | e
  · rw [e]; exact .top _
  · rw [e]; exact hf.at_ i hi

theorem Wk.tidy {m : Nat} {f : Fr} {S0 R R' : St} (hc : ClosedSt S0.length S0) (K : List Nat) (hl : R'.length = K.length) (hnd : K.Nodup) (hlt : ∀ k ∈ K, k < R.length)
    (hr : ∀ (j k : Nat) x y, K[j]? = some k → R[k]? = some x → R'[j]? = some y → RowRen (keepOf S0.length K) x y) {l : List (Nat × Value)} (hf : ∀ p ∈ l, Ren (keepOf S0.length K) (f p.1) p.2) :
    Wk m S0.length f (S0 ++ R) (frL l) (S0 ++ R') :=
  Wk.of _ (fun o ho => keepOf_lt o ho) (RenSt.of hc hl hnd hlt hr) (frL_ren hf)

theorem le_cons1 (S R : St) (a : AObj) : Le (S ++ [a]) (S ++ a :: R) = True := eq_true (by
  have := Le.append (S ++ [a]) R
  rw [List.append_assoc] at this
  exact this)
theorem le_cons2 (S R : St) (a b : AObj) : Le (S ++ [a, b]) (S ++ a :: b :: R) = True := eq_true (by
  have := Le.append (S ++ [a, b]) R
  rw [List.append_assoc] at this
  exact this)
theorem le_cons0 (S R : St) : Le S (S ++ R) = True := eq_true (Le.append S R)
theorem cells_agg (cs : Array Value) : (Value.agg cs).cells = cs := rfl
theorem cells_int (k : IntKind) (n : Int) : (Value.int k n).cells = #[.int k n] := rfl
theorem cells_bool (b : Bool) : (Value.bool b).cells = #[.bool b] := rfl
theorem cells_str (b : ByteArray) : (Value.string b).cells = #[.string b] := rfl
theorem cells_ptr (a : Option Addr) : (Value.pointer a).cells = #[.pointer a] := rfl
theorem cells_slice (a : Option Addr) (n c : Nat) : (Value.slice a n c).cells = #[.slice a n c] := rfl
theorem cells_iface (t : TypeId) (v : Value) : (Value.iface t v).cells = #[.iface t v] := rfl
theorem cells_nil : Value.nilIface.cells = #[.nilIface] := rfl
theorem cells_map (a : Option Nat) : (Value.map a).cells = #[.map a] := rfl
theorem solid_agg (cs : Array Value) : solid (.agg cs) = true := rfl
theorem solid_int (k : IntKind) (n : Int) : solid (.int k n) = true := rfl
theorem solid_bool (b : Bool) : solid (.bool b) = true := rfl
theorem solid_str (b : ByteArray) : solid (.string b) = true := rfl
theorem solid_ptr (a : Option Addr) : solid (.pointer a) = true := rfl
theorem solid_slice (a : Option Addr) (n c : Nat) : solid (.slice a n c) = true := rfl
theorem solid_iface (t : TypeId) (v : Value) : solid (.iface t v) = true := rfl
theorem solid_nil : solid .nilIface = true := rfl
theorem solid_map (a : Option Nat) : solid (.map a) = true := rfl

/-- A row whose values lead to the first n objects only. -/
def RowCl (n : Nat) : AObj → Prop
  | .dead => True
  | .row _ _ cs => ∀ v ∈ cs, Closed n v

theorem rows_of {R R' : List AObj} {K : List Nat} {n : Nat} (hR : K.map (R[·]?) = R'.map some) (hcl : ∀ x ∈ R', RowCl n x) :
    R'.length = K.length ∧ (∀ k ∈ K, k < R.length) ∧ ∀ (j k : Nat) x y, K[j]? = some k → R[k]? = some x → R'[j]? = some y → RowRen (keepOf n K) x y := by
  have hl : R'.length = K.length := by have := congrArg List.length hR; simpa using this.symm
  have get : ∀ (j k : Nat), K[j]? = some k → R[k]? = R'[j]? := fun j k h => by
    have := congrArg (fun l => l[j]?) hR
    simp only [List.getElem?_map, h, Option.map_some] at this
    cases hq : R'[j]? with
    | none => rw [hq] at this; simp at this
    | some y => rw [hq] at this; simpa using this
  refine ⟨hl, fun k hk => ?_, fun j k x y h1 h2 h3 => ?_⟩
  · obtain ⟨j, hj⟩ := List.mem_iff_getElem?.1 hk
    have hjl : j < R'.length := by rw [hl]; exact (List.getElem?_eq_some_iff.1 hj).1
    have := get j k hj
    rw [List.getElem?_eq_getElem hjl] at this
    exact (List.getElem?_eq_some_iff.1 this).1
  · have := get j k h1
    rw [h2, h3] at this
    cases this
    have hx := hcl x (List.mem_of_getElem? h3)
    cases x with
    | dead => exact True.intro
    | row ty rw cs => exact RowRen.same hx

/-- Of the later objects those of K are kept. -/
theorem Wk.keep {m : Nat} {f : Fr} {S0 R R' : St} (hc : ClosedSt S0.length S0) (K : List Nat) (hR : K.map (R[·]?) = R'.map some) (hnd : K.Nodup) (hcl : ∀ x ∈ R', RowCl S0.length x)
    {l : List (Nat × Value)} (hf : ∀ p ∈ l, Ren (keepOf S0.length K) (f p.1) p.2) : Wk m S0.length f (S0 ++ R) (frL l) (S0 ++ R') :=
  Wk.tidy hc K (rows_of hR hcl).1 hnd (rows_of hR hcl).2.1 (rows_of hR hcl).2.2 hf
theorem WkR.keep {S0 R R' : St} (hc : ClosedSt S0.length S0) (K : List Nat) (hR : K.map (R[·]?) = R'.map some) (hnd : K.Nodup) (hcl : ∀ x ∈ R', RowCl S0.length x)
    {r r' : Value} (hf : Ren (keepOf S0.length K) r r') : WkR S0.length r (S0 ++ R) r' (S0 ++ R') :=
  WkR.of _ (fun o ho => keepOf_lt o ho) (RenSt.of hc (rows_of hR hcl).1 hnd (rows_of hR hcl).2.1 (rows_of hR hcl).2.2) hf
theorem Ren.cl {n : Nat} {K : List Nat} {v : Value} (h : Closed n v) : Ren (keepOf n K) v v := Ren.closed (fun o ho => keepOf_lt o ho) h

theorem AWp.condB {P : Program} {m n : Nat} {Q : Exit → Fr → St → Prop} {f : Fr} {S : St} {c : Operand} {x y : Code} (b : Bool) (hc : ev m f c = some (.bool b)) (h1 : b = true → AWp P m n x Q f S) (h2 : b = false → AWp P m n y Q f S) : AWp P m n (.cond c x y) Q f S := by
  cases b
  · exact .cond hc (h2 rfl)
  · exact .cond hc (h1 rfl)

/-- A slice's elements lie so in a row. -/
structure SlAt (sz : Nat) (S : St) (xs : List (List Value)) (o k : Nat) (ty : TypeId) (rw : Bool) (cs : List Value) : Prop where
  row : S[o]? = some (.row ty rw cs)
  cell : ∀ (j : Nat) x, xs[j]? = some x → (cs.drop (k + j * sz)).take sz = x
  len : ∀ x ∈ xs, x.length = sz

theorem SlAt.fit {sz : Nat} {S : St} {xs : List (List Value)} {o k : Nat} {ty : TypeId} {rw : Bool} {cs : List Value} (h : SlAt sz S xs o k ty rw cs) (h0 : 0 < sz) {j : Nat} (hj : j < xs.length) : k + j * sz + sz ≤ cs.length := by
  have h1 := h.cell j _ (List.getElem?_eq_getElem hj)
  have h2 := h.len _ (List.getElem_mem hj)
  rw [← h1] at h2
  simp at h2
  omega
theorem SlAt.get {sz : Nat} {S : St} {xs : List (List Value)} {o k : Nat} {ty : TypeId} {rw : Bool} {cs : List Value} (h : SlAt sz S xs o k ty rw cs) {j i : Nat} {x : List Value} (hj : xs[j]? = some x) (hi : i < sz) : cs[k + j * sz + i]? = x[i]? := by
  have h1 := h.cell j x hj
  rw [← h1, List.getElem?_take, if_pos hi, List.getElem?_drop]

end Go.Ab
